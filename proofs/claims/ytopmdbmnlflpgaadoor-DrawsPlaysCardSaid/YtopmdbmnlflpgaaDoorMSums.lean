/- MacSums: the walk. -/
import Derived.Test.YtopmdbmnlflpgaaDoorAw3
namespace Go.Proofs.YtopmdbmnlflpgaaDoor
open Go.RowKit
theorem logBuild (w : World) : (buildK 44 #[]).run Tryd.prog w = .ok (.value (.agg (logC 0))) w :=
  run_buildK (by rw [logC_def]; change _ = _; kernel_rfl) w
theorem xlogBuild (ev : Operand → Value) (d : Option Tmp) (ps : Array (Nat × Operand)) (ty : TypeId) (p : String) (af : Array Edge) (g : Option (Nat × Bool)) :
    execOp ev ⟨d, .build 44 ps, ty, p, af, g⟩ = buildK 44 (ps.map fun x => (x.1, ev x.2)) := exec_buildK ev d _ ps ty p af g
attribute [local go_sem ↓] xlogBuild
attribute [local go_sem] logBuild
theorem LogB.new (w : World) (T : TypeId) : LogB (w.alloc (.cells (logC 0) T)) w.heap.size 0 := ⟨0, by omega, by omega, RowIs.new _ _ _⟩
set_option maxRecDepth 100000 in
set_option maxHeartbeats 1600000 in
theorem extract_any (g : Nat) (N : Int) (vk vs : Value) (key s : List UInt8) (w : World) (hm : MetB w g N) (he : ShaEnv w) (hk : Bs w vk key) (hs : Bs w vs s) (hkl : key.length ≤ 1000000) (hsl : s.length ≤ 1000000) (hN : N ≤ 900000) :
    Calls Tryd.prog 33 #[.pointer (some ⟨g, 0, none⟩), vk, vs] w (MSum g (N + 4) (macB key s) w) := by
  obtain ⟨F, hF⟩ : ∃ F, F = macB key s := ⟨_, rfl⟩
  have hFl : F.length = 32 := by rw [hF, macB_length]
  have hfl : [s].flatten = s := by simp
  have mm := fun (w : World) vl h1 h2 h3 h4 => mac_any g N vk vl key [s] w h1 h2 h3 h4 hkl (by rw [hfl]; omega) hN
  rw [hfl, ← hF] at mm
  rw [← hF]
  have MM := Lib.hid mm
  clear hF hfl mm hkl hsl
  have hgl := hm.lt
  obtain ⟨A, c, rfl, -, -, -⟩ := id hs
  obtain ⟨n, hn⟩ : ∃ n, s.length = n := ⟨_, rfl⟩
  rw [hn] at hs ⊢
  clear hn
  have HB : Below w.heap.size w ((w.alloc (.cells (u8s (zeros 32)) 33)).alloc (.cells #[.slice A n c] 27)) := (by repeat (first | with_reducible exact Below.refl _ _ | with_reducible assumption | refine Below.drew ?_ | refine below_drewN ?_ | refine Below.alloc ?_ (by first | omega | (simp; done) | (simp; omega)) _ | refine below_setRow ?_ (by omega) _ | refine Below.setCell ?_ (by first | omega | (simp; done) | (simp; omega)) _))
  have HB1 : Below w.heap.size w (w.alloc (.cells (u8s (zeros 32)) 33)) := (by repeat (first | with_reducible exact Below.refl _ _ | with_reducible assumption | refine Below.drew ?_ | refine below_drewN ?_ | refine Below.alloc ?_ (by first | omega | (simp; done) | (simp; omega)) _ | refine below_setRow ?_ (by omega) _ | refine Below.setCell ?_ (by first | omega | (simp; done) | (simp; omega)) _))
  have R6 : RowIs ((w.alloc (.cells (u8s (zeros 32)) 33)).alloc (.cells #[.slice A n c] 27)) w.heap.size (u8s (zeros 32)) := (RowIs.new _ _ _).alloc _
  go_enter Tryd.func33, Tryd.ntmps33
  go_wp2_with fail
  refine (MM.out _ _ (hm.step HB) (he.step HB) (hk.step HB) (BsLx.of (BsL.lit1 (gg := w.heap.size + 1) _ (by simp) (hs.step HB1)) (by omega))).mono ?_
  rintro e w1 ⟨rfl, hm1, hu1⟩
  replace R6 := R6.upd hu1 (by omega)
  have hu := (Upd.of (g := g) HB).trans hu1
  clear hs HB HB1 hu1 hm he hk
  have hr6 := R6.lt
  have R6h := R6.has; have R6r := R6.row; have R6l := R6.lt
  go_wp2_with fail
  refine bodyPost_retRow 6 _ w.heap.size 32 rfl rfl (by omega) (by kernel_rfl) (by kernel_rfl) ?_ rfl ?_
  · go_simp
  · go_simp
    obtain ⟨n, h0, h1, h2⟩ := hm1
    exact ⟨rfl, ⟨n, h0, by omega, RowIs.set_ne h2 (by omega) _⟩, hu.setRow (Nat.le_refl _) _⟩
def Keys2 (g1 g2 : Nat) (c1 c2 : Array Value) (w : World) : Prop := RowIs w g1 c1 ∧ RowIs w g2 c2
set_option maxRecDepth 100000 in
set_option maxHeartbeats 3200000 in
theorem macsums_any (vk va vb : Value) (key a b : List UInt8) (w : World) (he : ShaEnv w) (hk : Bs w vk key) (ha : Bs w va a) (hb : Bs w vb b) (h1 : key.length ≤ 200) (h2 : a.length ≤ 300) (h3 : b.length ≤ 300) :
    Calls Tryd.prog 10 #[vk, va, vb] w (TrueRes' w) := by
  obtain ⟨X, hX⟩ : ∃ X, X = macB key (a ++ b) := ⟨_, rfl⟩
  obtain ⟨Y, hY⟩ : ∃ Y, Y = macB key a := ⟨_, rfl⟩
  have hXl : X.length = 32 := by rw [hX, macB_length]
  have hYl : Y.length = 32 := by rw [hY, macB_length]
  have hfl : [a, b].flatten = a ++ b := by simp
  have hal : (a ++ b).length ≤ 600 := by rw [List.length_append]; omega
  have m1 := fun g vk vl (w : World) h1 h2 h3 h4 => mac_any g 0 vk vl key [a, b] w h1 h2 h3 h4 (by omega) (by rw [hfl]; omega) (by omega)
  have m2 := fun g vk vs (w : World) h1 h2 h3 h4 => extract_any g (0 + 4) vk vs key a w h1 h2 h3 h4 (by omega) (by omega) (by omega)
  have r1 := fun r vk vb (w : World) h1 h2 h3 => refmac_any r 0 vk vb key (a ++ b) w h1 h2 h3 (by omega) (by omega) (by omega)
  have r2 := fun r vk vb (w : World) h1 h2 h3 => refmac_any r (0 + 3) vk vb key a w h1 h2 h3 (by omega) (by omega) (by omega)
  unfold MSum at m1 m2
  unfold LSum at r1 r2
  rw [hfl, ← hX] at m1
  rw [← hY] at m2
  rw [← hX] at r1
  rw [← hY] at r2
  have M1 := Lib.hid m1; have M2 := Lib.hid m2; have Q1 := Lib.hid r1; have Q2 := Lib.hid r2
  clear hX hY hfl m1 m2 r1 r2
  obtain ⟨ab, hab⟩ : ∃ ab, a ++ b = ab := ⟨_, rfl⟩
  rw [hab] at Q1 hal
  obtain ⟨nab, hnab⟩ : ∃ n, ab.length = n := ⟨_, rfl⟩
  have HAB := Lib.hid hab
  have HNAB := Lib.hid hnab
  rw [hnab] at hal
  clear hab hnab
  obtain ⟨A0, c0, rfl, -, -, -⟩ := id hk
  obtain ⟨A1, c1, rfl, -, -, -⟩ := id ha
  obtain ⟨A2, c2, rfl, -, -, -⟩ := id hb
  obtain ⟨n0, hn0⟩ : ∃ n, key.length = n := ⟨_, rfl⟩
  obtain ⟨n1, hn1⟩ : ∃ n, a.length = n := ⟨_, rfl⟩
  obtain ⟨n2, hn2⟩ : ∃ n, b.length = n := ⟨_, rfl⟩
  have HN1 := Lib.hid hn1
  rw [hn0] at hk h1 ⊢
  rw [hn1] at ha h2 ⊢
  rw [hn2] at hb h3 ⊢
  clear hn0 hn1 hn2
  have i1 : ¬ (200 : Int) < n0 := by omega
  have i2 : ¬ (300 : Int) < n1 := by omega
  have i3 : ¬ (300 : Int) < n2 := by omega
  go_enter Tryd.func10, Tryd.ntmps10
  go_wp2_with fail
  refine (awake3_any _ he).mono ?_
  rintro e w1 ⟨rfl, HB⟩
  have hw1 := HB.size
  replace he := he.step HB; replace hk := hk.step HB; replace ha := ha.step HB; replace hb := hb.step HB
  go_wp2_with fail
  refine (new_any false _).mono ?_
  rintro e w2 ⟨g, rfl, hm0, hg, hb2⟩
  replace he := he.step hb2; replace hk := hk.step hb2; replace ha := ha.step hb2; replace hb := hb.step hb2
  replace HB := HB.trans (hb2.mono HB.size)
  have hgl := RowIs.lt hm0
  have hm := MetB.new hm0
  clear hm0 hb2
  have hq : Below w2.heap.size w2 (w2.alloc (.cells (logC 0) 44)) := (by repeat (first | with_reducible exact Below.refl _ _ | with_reducible assumption | refine Below.drew ?_ | refine below_drewN ?_ | refine Below.alloc ?_ (by first | omega | (simp; done) | (simp; omega)) _ | refine below_setRow ?_ (by omega) _ | refine Below.setCell ?_ (by first | omega | (simp; done) | (simp; omega)) _))
  have hl := LogB.new w2 44
  replace he := he.step hq; replace hk := hk.step hq; replace ha := ha.step hq; replace hb := hb.step hq; replace hm := hm.step hq
  replace HB := HB.trans (hq.mono HB.size)
  have hqq : Below (w2.alloc (.cells (logC 0) 44)).heap.size (w2.alloc (.cells (logC 0) 44)) ((w2.alloc (.cells (logC 0) 44)).alloc (.cells #[.slice A1 n1 c1, .slice A2 n2 c2] 27)) := (by repeat (first | with_reducible exact Below.refl _ _ | with_reducible assumption | refine Below.drew ?_ | refine below_drewN ?_ | refine Below.alloc ?_ (by first | omega | (simp; done) | (simp; omega)) _ | refine below_setRow ?_ (by omega) _ | refine Below.setCell ?_ (by first | omega | (simp; done) | (simp; omega)) _))
  have LL := BsL.lit2 (gg := w2.heap.size + 1) 27 (by simp) ha hb
  replace he := he.step hqq; replace hk := hk.step hqq; replace ha := ha.step hqq; replace hb := hb.step hqq; replace hm := hm.step hqq; replace hl := hl.step hqq
  replace HB := HB.trans (hqq.mono HB.size)
  go_wp2_with fail
  refine (M1.out g _ _ _ hm he hk (BsLx.of LL (by omega))).mono ?_
  rintro e w3 ⟨rfl, hm3, hu3⟩
  have hs2 := HB.size
  replace HB := hu3.below HB (by omega) HB.size
  replace he := hm.env he hu3
  replace hk := hk.upd hu3 hm.no8
  replace ha := ha.upd hu3 hm.no8
  replace hb := hb.upd hu3 hm.no8
  replace hl := hl.upd hu3 (by omega)
  clear hm hu3 LL hq hqq
  have hq : Below w3.heap.size w3 (w3.alloc (.cells (u8s X) 33)) := (by repeat (first | with_reducible exact Below.refl _ _ | with_reducible assumption | refine Below.drew ?_ | refine below_drewN ?_ | refine Below.alloc ?_ (by first | omega | (simp; done) | (simp; omega)) _ | refine below_setRow ?_ (by omega) _ | refine Below.setCell ?_ (by first | omega | (simp; done) | (simp; omega)) _))
  have R10 : RowIs (w3.alloc (.cells (u8s X) 33)) w3.heap.size (u8s X) := RowIs.new _ _ _
  have hgl3 := hm3.lt
  have hll3 := hl.lt
  replace he := he.step hq; replace hk := hk.step hq; replace ha := ha.step hq; replace hb := hb.step hq; replace hl := hl.step hq; replace hm3 := hm3.step hq
  replace HB := HB.trans (hq.mono HB.size)
  go_wp2_with fail
  refine (M2.out g _ _ _ hm3 he hk ha).mono ?_
  rintro e w4 ⟨rfl, hm4, hu4⟩
  replace HB := hu4.below HB (by omega) HB.size
  replace hk := hk.upd hu4 hm3.no8
  replace ha := ha.upd hu4 hm3.no8
  replace hb := hb.upd hu4 hm3.no8
  replace hl := hl.upd hu4 (by omega)
  replace R10 := R10.upd hu4 (by omega)
  clear hm3 hm4 hu4 hq he
  have hq : Below w4.heap.size w4 (w4.alloc (.cells (u8s Y) 33)) := (by repeat (first | with_reducible exact Below.refl _ _ | with_reducible assumption | refine Below.drew ?_ | refine below_drewN ?_ | refine Below.alloc ?_ (by first | omega | (simp; done) | (simp; omega)) _ | refine below_setRow ?_ (by omega) _ | refine Below.setCell ?_ (by first | omega | (simp; done) | (simp; omega)) _))
  have R11 : RowIs (w4.alloc (.cells (u8s Y) 33)) w4.heap.size (u8s Y) := RowIs.new _ _ _
  have hr10 := R10.lt
  have hll4 := hl.lt
  replace hk := hk.step hq; replace ha := ha.step hq; replace hb := hb.step hq; replace hl := hl.step hq; replace R10 := R10.step hq
  replace HB := HB.trans (hq.mono HB.size)
  obtain ⟨w5, hw5⟩ : ∃ w5, w5 = w4.alloc (.cells (u8s Y) 33) := ⟨_, rfl⟩
  rw [← hw5] at hk ha hb hl R10 R11 HB
  have hn5 : w3.heap.size ≠ w2.heap.size := by omega
  have hn6 : w4.heap.size ≠ w2.heap.size := by omega
  go_wp2_with fail
  rw [← hw5]
  refine wp_region_lexS [] [2, 14] (Keys2 w3.heap.size w4.heap.size (u8s X) (u8s Y)) (by kernel_rfl) (by decide +kernel) ⟨R10.drew, R11.drew⟩ (fun hS => ?_)
  have hd : Below w5.heap.size w5 w5.drew := (by repeat (first | with_reducible exact Below.refl _ _ | with_reducible assumption | refine Below.drew ?_ | refine below_drewN ?_ | refine Below.alloc ?_ (by first | omega | (simp; done) | (simp; omega)) _ | refine below_setRow ?_ (by omega) _ | refine Below.setCell ?_ (by first | omega | (simp; done) | (simp; omega)) _))
  replace hk := hk.step hd; replace ha := ha.step hd; replace hb := hb.step hd; replace hl := hl.step hd
  replace HB := HB.trans (hd.mono HB.size)
  generalize w5.drew = w6 at hk ha hb hl HB hS ⊢
  clear hd hw5 R10 R11
  have hs6 := HB.size
  (go_wp2_with (first | (refine wpLexS_nil ?_) | (refine wpLexS_pure rfl (fun _ _ => ?_); go_simp; refine ⟨_, fun w9 hw9 => (by have s1 := hw9.1.has; have s2 := hw9.2.has; have s3 := hw9.1.row; have s4 := hw9.2.row; go_simp; rfl), ?_⟩) | (refine wpLexS_pure0 rfl (fun _ _ => ?_); go_simp; try go_bits) | (refine wpLexS_read rfl (fun _ _ => ?_); go_simp; try go_bits) | (refine wpLexS_loud rfl (fun KL hKL => ?_))))
  have hq : Below w6.heap.size w6 (w6.alloc (.cells #[] 5)) := (by repeat (first | with_reducible exact Below.refl _ _ | with_reducible assumption | refine Below.drew ?_ | refine below_drewN ?_ | refine Below.alloc ?_ (by first | omega | (simp; done) | (simp; omega)) _ | refine below_setRow ?_ (by omega) _ | refine Below.setCell ?_ (by first | omega | (simp; done) | (simp; omega)) _))
  refine hKL _ _ ⟨hS.1.step hq, hS.2.step hq⟩ (fun _ => ?_)
  have own0 := Own8.empty (T := 5) (g := w6.heap.size) w6 (base := w6.heap.size) rfl (Nat.le_refl _)
  have ha1 := ha.step hq
  have HBq : Below w6.heap.size w6 (w6.alloc (.cells #[] 5)) := hq
  (go_wp2_with (first | (refine wpLexS_nil ?_) | (refine wpLexS_pure rfl (fun _ _ => ?_); go_simp; refine ⟨_, fun w9 hw9 => (by have s1 := hw9.1.has; have s2 := hw9.2.has; have s3 := hw9.1.row; have s4 := hw9.2.row; go_simp; rfl), ?_⟩) | (refine wpLexS_pure0 rfl (fun _ _ => ?_); go_simp; try go_bits) | (refine wpLexS_read rfl (fun _ _ => ?_); go_simp; try go_bits)))
  refine wpLexS_loud rfl (fun KL hKL => ?_)
  refine wpList_wanted (by rfl) (fun K1 hK1 => ?_)
  refine wp_appendBs Tryd.underlying27 Tryd.info8 (.tmp 45) (.tmp 46) rfl w6.heap.size rfl own0 rfl ha1 (List.nil_append _) HN1.out (by omega) (by simp) ?_
  intro A4 c4 w7 own1 bel1
  refine hK1 _ _ ?_
  go_wp2_with fail
  replace HBq := HBq.trans bel1
  have hs7 := HBq.size
  refine hKL _ _ ⟨hS.1.step HBq, hS.2.step HBq⟩ (fun _ => ?_)
  have hb1 := hb.step HBq
  clear own0 ha1 bel1 hq
  (go_wp2_with (first | (refine wpLexS_nil ?_) | (refine wpLexS_pure rfl (fun _ _ => ?_); go_simp; refine ⟨_, fun w9 hw9 => (by have s1 := hw9.1.has; have s2 := hw9.2.has; have s3 := hw9.1.row; have s4 := hw9.2.row; go_simp; rfl), ?_⟩) | (refine wpLexS_pure0 rfl (fun _ _ => ?_); go_simp; try go_bits) | (refine wpLexS_read rfl (fun _ _ => ?_); go_simp; try go_bits)))
  refine wpLexS_loud rfl (fun KL hKL => ?_)
  refine wpList_wanted (by rfl) (fun K1 hK1 => ?_)
  refine wp_appendBs Tryd.underlying27 Tryd.info8 (.tmp 47) (.tmp 48) rfl w6.heap.size rfl own1 rfl hb1 HAB.out HNAB.out (by omega) (by omega) ?_
  intro A5 c5 w8 own2 bel2
  refine hK1 _ _ ?_
  go_wp2_with fail
  replace HBq := HBq.trans bel2
  have hs8 := HBq.size
  refine hKL _ _ ⟨hS.1.step HBq, hS.2.step HBq⟩ (fun _ => ?_)
  clear own1 hb1 bel2 hs7
  (go_wp2_with (first | (refine wpLexS_nil ?_) | (refine wpLexS_pure rfl (fun _ _ => ?_); go_simp; refine ⟨_, fun w9 hw9 => (by have s1 := hw9.1.has; have s2 := hw9.2.has; have s3 := hw9.1.row; have s4 := hw9.2.row; go_simp; rfl), ?_⟩) | (refine wpLexS_pure0 rfl (fun _ _ => ?_); go_simp; try go_bits) | (refine wpLexS_read rfl (fun _ _ => ?_); go_simp; try go_bits) | (refine wpLexS_loud rfl (fun KL hKL => ?_))))
  refine (Q1.out _ _ _ _ (hl.step HBq) (hk.step HBq) (own2.bs (by rw [HNAB.out]; omega))).mono ?_
  rintro e w9 ⟨rfl, hl9, hu9⟩
  have hn8 := (hl.step HBq).no8
  have S9 : Keys2 w3.heap.size w4.heap.size (u8s X) (u8s Y) w9 := ⟨(hS.1.step HBq).upd hu9 hn5, (hS.2.step HBq).upd hu9 hn6⟩
  have hk9 := (hk.step HBq).upd hu9 hn8
  have ha9 := (ha.step HBq).upd hu9 hn8
  have hgr : w.heap.size ≤ w2.heap.size := by omega
  replace HB := hu9.below (HB.trans (HBq.mono HB.size)) hgr (by omega)
  clear hk ha hb hl hn8 own2 hS hu9 HBq
  (go_wp2_with (first | (refine wpLexS_nil ?_) | (refine wpLexS_pure rfl (fun _ _ => ?_); go_simp; refine ⟨_, fun w9 hw9 => (by have s1 := hw9.1.has; have s2 := hw9.2.has; have s3 := hw9.1.row; have s4 := hw9.2.row; go_simp; rfl), ?_⟩) | (refine wpLexS_pure0 rfl (fun _ _ => ?_); go_simp; try go_bits) | (refine wpLexS_read rfl (fun _ _ => ?_); go_simp; try go_bits) | (refine wpLexS_loud rfl (fun KL hKL => ?_))))
  refine hKL _ _ S9 (fun _ => ?_)
  (go_wp2_with (first | (refine wpLexS_nil ?_) | (refine wpLexS_pure rfl (fun _ _ => ?_); go_simp; refine ⟨_, fun w9 hw9 => (by have s1 := hw9.1.has; have s2 := hw9.2.has; have s3 := hw9.1.row; have s4 := hw9.2.row; go_simp; rfl), ?_⟩) | (refine wpLexS_pure0 rfl (fun _ _ => ?_); go_simp; try go_bits) | (refine wpLexS_read rfl (fun _ _ => ?_); go_simp; try go_bits) | (refine wpLexS_loud rfl (fun KL hKL => ?_))))
  refine (Q2.out _ _ _ _ hl9 hk9 ha9).mono ?_
  rintro e w10 ⟨rfl, hl10, hu10⟩
  have S10 : Keys2 w3.heap.size w4.heap.size (u8s X) (u8s Y) w10 := ⟨S9.1.upd hu10 hn5, S9.2.upd hu10 hn6⟩
  replace HB := hu10.below HB hgr HB.size
  clear hl9 hk9 ha9 S9 hu10
  (go_wp2_with (first | (refine wpLexS_nil ?_) | (refine wpLexS_pure rfl (fun _ _ => ?_); go_simp; refine ⟨_, fun w9 hw9 => (by have s1 := hw9.1.has; have s2 := hw9.2.has; have s3 := hw9.1.row; have s4 := hw9.2.row; go_simp; rfl), ?_⟩) | (refine wpLexS_pure0 rfl (fun _ _ => ?_); go_simp; try go_bits) | (refine wpLexS_read rfl (fun _ _ => ?_); go_simp; try go_bits) | (refine wpLexS_loud rfl (fun KL hKL => ?_))))
  refine hKL _ _ S10 (fun _ => ?_)
  (go_wp2_with (first | (refine wpLexS_nil ?_) | (refine wpLexS_pure rfl (fun _ _ => ?_); go_simp; refine ⟨_, fun w9 hw9 => (by have s1 := hw9.1.has; have s2 := hw9.2.has; have s3 := hw9.1.row; have s4 := hw9.2.row; go_simp; rfl), ?_⟩) | (refine wpLexS_pure0 rfl (fun _ _ => ?_); go_simp; try go_bits) | (refine wpLexS_read rfl (fun _ _ => ?_); go_simp; try go_bits) | (refine wpLexS_loud rfl (fun KL hKL => ?_))))
  go_wp2_with fail
  go_ret
  exact ⟨by simp, HB⟩
theorem walk_MacSums (A0 : Option Addr) (c0 : Nat) (key : List UInt8) (A1 : Option Addr) (c1 : Nat) (a : List UInt8) (A2 : Option Addr) (c2 : Nat) (b : List UInt8) (w : World) (he : ShaEnv w) (hc0 : key.length ≤ c0) (hr0 : Rd8 w w.heap.size A0 key) (hc1 : a.length ≤ c1) (hr1 : Rd8 w w.heap.size A1 a) (hc2 : b.length ≤ c2) (hr2 : Rd8 w w.heap.size A2 b) :
    Calls Tryd.prog 10 #[.slice A0 key.length c0, .slice A1 a.length c1, .slice A2 b.length c2] w (TrueRes' w) := by
  by_cases h : key.length ≤ 200 ∧ a.length ≤ 300 ∧ b.length ≤ 300
  · obtain ⟨h1, h2, h3⟩ := h
    exact macsums_any _ _ _ key a b w he (Bs.of hc0 (by omega) hr0) (Bs.of hc1 (by omega) hr1) (Bs.of hc2 (by omega) hr2) h1 h2 h3
  · obtain ⟨n0, hn0⟩ : ∃ n, key.length = n := ⟨_, rfl⟩
    obtain ⟨n1, hn1⟩ : ∃ n, a.length = n := ⟨_, rfl⟩
    obtain ⟨n2, hn2⟩ : ∃ n, b.length = n := ⟨_, rfl⟩
    rw [hn0, hn1, hn2] at h ⊢
    clear hr0 hr1 hr2 hc0 hc1 hc2 hn0 hn1 hn2
    have hd : (decide ((200 : Int) < n0) || decide ((300 : Int) < n1) || decide ((300 : Int) < n2)) = true := by simp; omega
    go_enter Tryd.func10, Tryd.ntmps10
    go_wp2_with (go_at_call 29; refine (awake3_any _ he).mono ?_; rintro e w1 ⟨rfl, hb1⟩)
    all_goals (go_ret; exact ⟨rfl, by assumption⟩)
end Go.Proofs.YtopmdbmnlflpgaaDoor
