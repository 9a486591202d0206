/- Layer 3: the keyed digest. -/
import Derived.Test.YtopmdbmnlflpgaaDoorMacR
namespace Go.Proofs.YtopmdbmnlflpgaaDoor
open Go.RowKit
/-- a slice of slices that does not lie in block g -/
def BsLx (g : Nat) (w : World) (v : Value) (ls : List (List UInt8)) : Prop := ∃ A c, v = .slice A ls.length c ∧ ls.length ≤ c ∧ ls.length ≤ 140737488351232 ∧ (0 < ls.length → ∃ b o, A = some ⟨b, o, none⟩ ∧ b ≠ g ∧ RdL w b o ls)
theorem BsLx.bs {g : Nat} {w : World} {v : Value} {ls : List (List UInt8)} (h : BsLx g w v ls) : BsL w v ls := by
  obtain ⟨A, c, h1, h2, h3, h4⟩ := h
  refine ⟨A, c, h1, h2, h3, fun h0 => ?_⟩
  obtain ⟨b, o, h5, _, h6⟩ := h4 h0
  exact ⟨b, o, h5, h6⟩
theorem BsLx.nil (g : Nat) (w : World) : BsLx g w (.slice none 0 0) [] := ⟨none, 0, rfl, Nat.le_refl _, by simp, fun h => absurd h (by simp)⟩
theorem BsLx.of {g gg : Nat} {w : World} {n c : Nat} {ls : List (List UInt8)} (h : BsL w (.slice (some ⟨gg, 0, none⟩) n c) ls) (hg : gg ≠ g) : BsLx g w (.slice (some ⟨gg, 0, none⟩) n c) ls := by
  obtain ⟨A, c', h1, h2, h3, h4⟩ := h
  refine ⟨A, c', h1, h2, h3, fun h0 => ?_⟩
  obtain ⟨b, o, h5, h6⟩ := h4 h0
  injection h1 with e1 _ _
  rw [← e1] at h5
  cases h5
  exact ⟨gg, 0, e1.symm, hg, h6⟩
theorem BsLx.step {g : Nat} {w w' : World} {v : Value} {ls : List (List UInt8)} (h : BsLx g w v ls) (hb : Below w.heap.size w w') : BsLx g w' v ls := by
  obtain ⟨A, c, h1, h2, h3, h4⟩ := h
  refine ⟨A, c, h1, h2, h3, fun h0 => ?_⟩
  obtain ⟨b, o, h5, h7, h6⟩ := h4 h0
  exact ⟨b, o, h5, h7, h6.step hb⟩
theorem BsLx.upd {g : Nat} {w w' : World} {v : Value} {ls : List (List UInt8)} (h : BsLx g w v ls) (hu : Upd g w w') (hn : No8 w g) : BsLx g w' v ls := by
  obtain ⟨A, c, h1, h2, h3, h4⟩ := h
  refine ⟨A, c, h1, h2, h3, fun h0 => ?_⟩
  obtain ⟨b, o, h5, h7, h6⟩ := h4 h0
  refine ⟨b, o, h5, h7, Nat.lt_of_lt_of_le h6.1 hu.size, fun i hi => ?_⟩
  obtain ⟨v, h8, h9⟩ := h6.2 i hi
  exact ⟨v, by rw [hu.cell (p := ⟨b, o + i, none⟩) h6.1 h7]; exact h8, h9.upd hu hn⟩
set_option maxRecDepth 100000 in
set_option maxHeartbeats 1600000 in
theorem mac_any (g : Nat) (N : Int) (vk vl : Value) (key : List UInt8) (ls : List (List UInt8)) (w : World) (hm : MetB w g N) (he : ShaEnv w) (hk : Bs w vk key) (hr : BsLx g w vl ls) (hkl : key.length ≤ 1000000) (hl : ls.flatten.length ≤ 1000000) (hN : N ≤ 900000) :
    Calls Tryd.prog 32 #[.pointer (some ⟨g, 0, none⟩), vk, vl] w (MSum g (N + 4) (macB key ls.flatten) w) := by
  obtain ⟨M, hM⟩ : ∃ M, M = ls.flatten := ⟨_, rfl⟩
  obtain ⟨O, hO⟩ : ∃ O, O = padK (keyB key) 0x5c := ⟨_, rfl⟩
  obtain ⟨I, hI⟩ : ∃ I, I = padK (keyB key) 0x36 := ⟨_, rfl⟩
  obtain ⟨D, hD⟩ : ∃ D, D = shaB [I, M].flatten := ⟨_, rfl⟩
  rw [← hM] at hl
  have hOl : O.length = 64 := by rw [hO, padK_length _ _ (keyB_length _)]
  have hIl : I.length = 64 := by rw [hI, padK_length _ _ (keyB_length _)]
  have hDl : D.length = 32 := by rw [hD, shaB_length]
  have hres : macB key M = shaB [O, D].flatten := by
    rw [macB_def, hO, hD, hI]; simp
  have p1 := fun (w : World) h1 h2 h3 => padded_any g N vk key 0x5c w h1 h2 h3 hkl (by omega)
  have p2 := fun (w : World) h1 h2 h3 => padded_any g (N + 1) vk key 0x36 w h1 h2 h3 hkl (by omega)
  rw [← hO] at p1
  rw [← hI] at p2
  have hj := fun w h => join_bs vl ls (by rw [← hM]; omega) w h
  rw [← hM] at hj
  have L1 := Lib.hid (show [I, M].flatten.length ≤ 17592186044416 by simp; omega)
  have L2 := Lib.hid (show [O, D].flatten.length ≤ 17592186044416 by simp; omega)
  have HD := Lib.hid hD.symm
  rw [← hM, hres]
  have hFl := shaB_length [O, D].flatten
  obtain ⟨F, hF⟩ : ∃ F, F = shaB [O, D].flatten := ⟨_, rfl⟩
  rw [← hF] at hFl ⊢
  have HF := Lib.hid hF.symm
  have P1 := Lib.hid p1
  have P2 := Lib.hid p2
  have HJ := Lib.hid hj
  have c1 : n8 (0x5c : UInt8) = 92 := by rw [n8_def]; rfl
  have c2 : n8 (0x36 : UInt8) = 54 := by rw [n8_def]; rfl
  rw [c1] at P1
  rw [c2] at P2
  clear hM hO hI hD hres p1 p2 hj hF c1 c2 hl hkl
  have hgl := hm.lt
  have HB : Below w.heap.size w (w.alloc (.cells (u8s (zeros 32)) 33)) := (by repeat (first | with_reducible exact Below.refl _ _ | with_reducible assumption | refine Below.drew ?_ | refine below_drewN ?_ | refine Below.alloc ?_ (by first | omega | (simp; done) | (simp; omega)) _ | refine below_setRow ?_ (by omega) _ | refine Below.setCell ?_ (by first | omega | (simp; done) | (simp; omega)) _))
  have R6 : RowIs (w.alloc (.cells (u8s (zeros 32)) 33)) w.heap.size (u8s (zeros 32)) := RowIs.new _ _ _
  replace hm := hm.step HB; replace he := he.step HB; replace hk := hk.step HB; replace hr := hr.step HB
  go_enter Tryd.func32, Tryd.ntmps32
  go_wp2_with fail
  refine (P1.out _ hm he hk).mono ?_
  rintro e w1 ⟨v1, rfl, hv1, hm1, hu1⟩
  replace he := hm.env he hu1
  replace hk := hk.upd hu1 hm.no8
  replace hr := hr.upd hu1 hm.no8
  replace R6 := R6.upd hu1 (by omega)
  have hu := (Upd.of (g := g) HB).trans hu1
  clear hm hu1 HB
  go_wp2_with fail
  refine (P2.out _ hm1 he hk).mono ?_
  rintro e w2 ⟨v2, rfl, hv2, hm2, hu2⟩
  replace he := hm1.env he hu2
  replace hr := hr.upd hu2 hm1.no8
  replace hv1 := hv1.upd hu2 hm1.no8
  replace R6 := R6.upd hu2 (by omega)
  replace hu := hu.trans hu2
  clear hm1 hu2 hk
  go_wp2_with fail
  refine (HJ.out _ hr.bs).mono ?_
  rintro e w3 ⟨v3, rfl, hv3, hb3⟩
  replace he := he.step hb3; replace hv1 := hv1.step hb3; replace hv2 := hv2.step hb3; replace hm2 := hm2.step hb3; replace R6 := R6.step hb3
  replace hu := hu.then hb3
  clear hr hb3
  obtain ⟨A1, k1, rfl, -, -, -⟩ := id hv1
  obtain ⟨A2, k2, rfl, -, -, -⟩ := id hv2
  obtain ⟨A3, k3, rfl, -, -, -⟩ := id hv3
  rw [hOl] at hv1 ⊢
  rw [hIl] at hv2 ⊢
  go_wp2_with fail
  have hq : Below w3.heap.size w3 (w3.alloc (.cells #[.slice A2 64 k2, .slice A3 M.length k3] 27)) := (by repeat (first | with_reducible exact Below.refl _ _ | with_reducible assumption | refine Below.drew ?_ | refine below_drewN ?_ | refine Below.alloc ?_ (by first | omega | (simp; done) | (simp; omega)) _ | refine below_setRow ?_ (by omega) _ | refine Below.setCell ?_ (by first | omega | (simp; done) | (simp; omega)) _))
  refine (msum_any g (N + 1 + 1) _ [I, M] _ (hm2.step hq) (BsL.lit2 (gg := w3.heap.size) _ rfl hv2 hv3) L1.out (he.step hq) (by omega)).mono ?_
  rintro e w4 ⟨rfl, hm4, hu4⟩
  rw [HD.out]
  replace he := (hm2.step hq).env (he.step hq) hu4
  replace hv1 := (hv1.step hq).upd hu4 (hm2.step hq).no8
  replace R6 := (R6.step hq).upd hu4 (by omega)
  replace hu := (hu.then hq).trans hu4
  have hgl4 := hm4.lt
  clear hm2 hv2 hv3 hu4 hq
  have hq : Below w4.heap.size w4 ((w4.alloc (.cells (u8s D) 33)).alloc (.cells #[.slice A1 64 k1, .slice (some ⟨w4.heap.size, 0, none⟩) 32 32] 27)) := (by repeat (first | with_reducible exact Below.refl _ _ | with_reducible assumption | refine Below.drew ?_ | refine below_drewN ?_ | refine Below.alloc ?_ (by first | omega | (simp; done) | (simp; omega)) _ | refine below_setRow ?_ (by omega) _ | refine Below.setCell ?_ (by first | omega | (simp; done) | (simp; omega)) _))
  have hq1 : Below w4.heap.size w4 (w4.alloc (.cells (u8s D) 33)) := (by repeat (first | with_reducible exact Below.refl _ _ | with_reducible assumption | refine Below.drew ?_ | refine below_drewN ?_ | refine Below.alloc ?_ (by first | omega | (simp; done) | (simp; omega)) _ | refine below_setRow ?_ (by omega) _ | refine Below.setCell ?_ (by first | omega | (simp; done) | (simp; omega)) _))
  have hv4 : Bs (w4.alloc (.cells (u8s D) 33)) (.slice (some ⟨w4.heap.size, 0, none⟩) 32 32) D := Bs.row (RowIs.new _ _ _) 32 32 hDl.symm (by omega) (by omega)
  go_wp2_with fail
  refine (msum_any g (N + 1 + 1 + 1) _ [O, D] _ (hm4.step hq) (BsL.lit2 (gg := w4.heap.size + 1) _ (by simp) (hv1.step hq1) hv4) L2.out (he.step hq) (by omega)).mono ?_
  rintro e w5 ⟨rfl, hm5, hu5⟩
  rw [HF.out]
  replace R6 := (R6.step hq).upd hu5 (by omega)
  replace hu := (hu.then hq).trans hu5
  clear hm4 hv1 hv4 he hq hq1 hu5
  have hr6 := R6.lt
  have R6h := R6.has; have R6r := R6.row; have R6l := R6.lt
  go_wp2_with fail
  refine bodyPost_retRow 6 _ w.heap.size 32 rfl rfl (by omega) (by kernel_rfl) (by kernel_rfl) ?_ rfl ?_
  · go_simp
  · go_simp
    obtain ⟨n, h0, h1, h2⟩ := hm5
    exact ⟨rfl, ⟨n, h0, by omega, RowIs.set_ne h2 (by omega) _⟩, hu.setRow (Nat.le_refl _) _⟩
end Go.Proofs.YtopmdbmnlflpgaaDoor
