/- MacZeros: zeros behind a short key, and a long key's sum in its place, turn nothing. -/
import Derived.Test.YtopmdbmnlflpgaaDoorMSums
import Derived.Test.YtopmdbmnlflpgaaDoorZer
namespace Go.Proofs.YtopmdbmnlflpgaaDoor
open Go.RowKit
theorem macB_long (k m : List UInt8) (h : 64 < k.length) : macB (shaB k) m = macB k m := by
  rw [macB_def, macB_def, keyB_big k h, keyB_small (shaB k) (by rw [shaB_length]; omega)]
theorem macB_zeros (k m : List UInt8) (z : Nat) (h : k.length + z ≤ 64) : macB (k ++ List.replicate z 0) m = macB k m := by
  have hp : ∀ c, padK (k ++ List.replicate z 0) c = padK k c := fun c => by
    rw [padK_def, padK_def, List.append_assoc]
    congr 2
    rw [zeros_def, zeros_def, List.length_append, List.length_replicate, List.replicate_append_replicate]
    congr 1
    omega
  rw [macB_def, macB_def, keyB_small k (by omega), keyB_small (k ++ List.replicate z 0) (by simp; omega), hp, hp]
set_option maxRecDepth 100000 in
set_option maxHeartbeats 3200000 in
theorem maczeros_any (vk vb : Value) (key b : List UInt8) (z : Int) (w : World) (he : ShaEnv w) (hk : Bs w vk key) (hb : Bs w vb b) (h1 : key.length ≤ 200) (h2 : b.length ≤ 300) (z0 : 0 ≤ z) (z1 : z ≤ 64) :
    Calls Tryd.prog 9 #[vk, vb, .int .i64 z] w (TrueRes' w) := by
  obtain ⟨X, hX⟩ : ∃ X, X = macB key b := ⟨_, rfl⟩
  obtain ⟨S, hS⟩ : ∃ S, S = shaB key := ⟨_, rfl⟩
  have hXl : X.length = 32 := by rw [hX, macB_length]
  have hSl : S.length = 32 := by rw [hS, shaB_length]
  have hfl : [b].flatten = b := by simp
  have hfk : [key].flatten = key := by simp
  have m1 := fun g vk vl (w : World) h1 h2 h3 h4 => mac_any g 0 vk vl key [b] w h1 h2 h3 h4 (by omega) (by rw [hfl]; omega) (by omega)
  have s1 := fun g vl (w : World) h1 h2 h3 => msum_any g (0 + 4) vl [key] w h1 h2 (by rw [hfk]; omega) h3 (by omega)
  have m2 := fun g vk vl (w : World) h1 h2 h3 h4 => mac_any g (0 + 4 + 1) vk vl S [b] w h1 h2 h3 h4 (by omega) (by rw [hfl]; omega) (by omega)
  have m3 := fun K (hK : K.length ≤ 300) g vk vl (w : World) h1 h2 h3 h4 => mac_any g (0 + 4) vk vl K [b] w h1 h2 h3 h4 (by omega) (by rw [hfl]; omega) (by omega)
  unfold MSum at m1 m2 m3 s1
  rw [hfl, ← hX] at m1
  rw [hfl] at m2
  rw [hfl] at m3
  rw [hfk, ← hS] at s1
  have hlong : 64 < key.length → macB S b = X := fun h => by rw [hS, hX, macB_long key b h]
  have hshort : ∀ q, key.length + q ≤ 64 → macB (key ++ List.replicate q 0) b = X := fun q h => by rw [hX, macB_zeros key b q h]
  have M1 := Lib.hid m1; have M2 := Lib.hid m2; have M3 := Lib.hid m3; have S1 := Lib.hid s1; have HLO := Lib.hid hlong; have HSH := Lib.hid hshort
  clear hX hS hfl hfk m1 m2 m3 s1 hlong hshort
  obtain ⟨A0, c0, rfl, -, -, -⟩ := id hk
  obtain ⟨A1, c1, rfl, -, -, -⟩ := id hb
  obtain ⟨n0, hn0⟩ : ∃ n, key.length = n := ⟨_, rfl⟩
  obtain ⟨n1, hn1⟩ : ∃ n, b.length = n := ⟨_, rfl⟩
  have HN0 := Lib.hid hn0
  rw [hn0] at hk h1 HLO HSH ⊢
  rw [hn1] at hb h2 ⊢
  clear hn0 hn1
  have i1 : ¬ (200 : Int) < n0 := by omega
  have i2 : ¬ (300 : Int) < n1 := by omega
  have i3 : ¬ z < 0 := by omega
  have i4 : ¬ (64 : Int) < z := by omega
  by_cases hL : 64 < n0
  · have hL' : (64 : Int) < n0 := by omega
    have hmz := HLO.out hL
    rw [hmz] at M2
    clear hmz
    go_enter Tryd.func9, Tryd.ntmps9
    go_wp2_with fail
    refine (awake3_any _ he).mono ?_
    rintro e w1 ⟨rfl, HB⟩
    replace he := he.step HB; replace hk := hk.step HB; replace hb := hb.step HB
    go_wp2_with fail
    refine (new_any false _).mono ?_
    rintro e w2 ⟨g, rfl, hm0, hg, hb2⟩
    have hg0 : w.heap.size ≤ g := by have := HB.size; omega
    replace he := he.step hb2; replace hk := hk.step hb2; replace hb := hb.step hb2
    replace HB := HB.trans (hb2.mono HB.size)
    have hm := MetB.new hm0
    have hgl := RowIs.lt hm0
    clear hm0 hb2
    have hq : Below w2.heap.size w2 (w2.alloc (.cells #[.slice A1 n1 c1] 27)) := (by repeat (first | with_reducible exact Below.refl _ _ | with_reducible assumption | refine Below.drew ?_ | refine below_drewN ?_ | refine Below.alloc ?_ (by first | omega | (simp; done) | (simp; omega)) _ | refine below_setRow ?_ (by omega) _ | refine Below.setCell ?_ (by first | omega | (simp; done) | (simp; omega)) _))
    have LL := BsL.lit1 (gg := w2.heap.size) 27 (by simp) hb
    replace he := he.step hq; replace hk := hk.step hq; replace hb := hb.step hq; replace hm := hm.step hq
    replace HB := HB.trans (hq.mono HB.size)
    go_wp2_with fail
    refine (M1.out g _ _ _ hm he hk (BsLx.of LL (by omega))).mono ?_
    rintro e w3 ⟨rfl, hm3, hu3⟩
    replace HB := hu3.below HB hg0 HB.size
    replace he := hm.env he hu3
    replace hk := hk.upd hu3 hm.no8
    replace hb := hb.upd hu3 hm.no8
    clear hm hu3 LL hq
    have hq : Below w3.heap.size w3 (w3.alloc (.cells (u8s X) 33)) := (by repeat (first | with_reducible exact Below.refl _ _ | with_reducible assumption | refine Below.drew ?_ | refine below_drewN ?_ | refine Below.alloc ?_ (by first | omega | (simp; done) | (simp; omega)) _ | refine below_setRow ?_ (by omega) _ | refine Below.setCell ?_ (by first | omega | (simp; done) | (simp; omega)) _))
    have R9 : RowIs (w3.alloc (.cells (u8s X) 33)) w3.heap.size (u8s X) := RowIs.new _ _ _
    have hgl3 := hm3.lt
    replace he := he.step hq; replace hk := hk.step hq; replace hb := hb.step hq; replace hm3 := hm3.step hq
    replace HB := HB.trans (hq.mono HB.size)
    have hq2 : Below (w3.alloc (.cells (u8s X) 33)).heap.size (w3.alloc (.cells (u8s X) 33)) ((w3.alloc (.cells (u8s X) 33)).alloc (.cells #[.slice A0 n0 c0] 27)) := (by repeat (first | with_reducible exact Below.refl _ _ | with_reducible assumption | refine Below.drew ?_ | refine below_drewN ?_ | refine Below.alloc ?_ (by first | omega | (simp; done) | (simp; omega)) _ | refine below_setRow ?_ (by omega) _ | refine Below.setCell ?_ (by first | omega | (simp; done) | (simp; omega)) _))
    have LL := BsL.lit1 (gg := w3.heap.size + 1) 27 (by simp) hk
    replace he := he.step hq2; replace hk := hk.step hq2; replace hb := hb.step hq2; replace hm3 := hm3.step hq2; replace R9 := R9.step hq2
    replace HB := HB.trans (hq2.mono HB.size)
    have hr9 := R9.lt
    go_wp2_with fail
    refine (S1.out g _ _ hm3 LL he).mono ?_
    rintro e w5 ⟨rfl, hm5, hu5⟩
    have hgs : w.heap.size ≤ g := hg0
    replace HB := hu5.below HB hg0 HB.size
    replace he := hm3.env he hu5
    replace hb := hb.upd hu5 hm3.no8
    replace R9 := R9.upd hu5 (by omega)
    clear hm3 hu5 LL hq hq2 hk
    have hq : Below w5.heap.size w5 (w5.alloc (.cells (u8s S) 33)) := (by repeat (first | with_reducible exact Below.refl _ _ | with_reducible assumption | refine Below.drew ?_ | refine below_drewN ?_ | refine Below.alloc ?_ (by first | omega | (simp; done) | (simp; omega)) _ | refine below_setRow ?_ (by omega) _ | refine Below.setCell ?_ (by first | omega | (simp; done) | (simp; omega)) _))
    have R10 : RowIs (w5.alloc (.cells (u8s S) 33)) w5.heap.size (u8s S) := RowIs.new _ _ _
    have hgl5 := hm5.lt
    have hr9' := R9.lt
    replace he := he.step hq; replace hb := hb.step hq; replace hm5 := hm5.step hq; replace R9 := R9.step hq
    replace HB := HB.trans (hq.mono HB.size)
    have hq2 : Below (w5.alloc (.cells (u8s S) 33)).heap.size (w5.alloc (.cells (u8s S) 33)) ((w5.alloc (.cells (u8s S) 33)).alloc (.cells #[.slice A1 n1 c1] 27)) := (by repeat (first | with_reducible exact Below.refl _ _ | with_reducible assumption | refine Below.drew ?_ | refine below_drewN ?_ | refine Below.alloc ?_ (by first | omega | (simp; done) | (simp; omega)) _ | refine below_setRow ?_ (by omega) _ | refine Below.setCell ?_ (by first | omega | (simp; done) | (simp; omega)) _))
    have LL := BsL.lit1 (gg := w5.heap.size + 1) 27 (by simp) hb
    replace he := he.step hq2; replace hb := hb.step hq2; replace hm5 := hm5.step hq2; replace R9 := R9.step hq2; replace R10 := R10.step hq2
    replace HB := HB.trans (hq2.mono HB.size)
    have hkS : Bs ((w5.alloc (.cells (u8s S) 33)).alloc (.cells #[.slice A1 n1 c1] 27)) (.slice (some ⟨w5.heap.size, 0, none⟩) 32 32) S := Bs.row R10 32 32 hSl.symm (Nat.le_refl _) (by omega)
    go_wp2_with fail
    refine (M2.out g _ _ _ hm5 he hkS (BsLx.of LL (by omega))).mono ?_
    rintro e w6 ⟨rfl, hm6, hu6⟩
    replace HB := hu6.below HB hg0 HB.size
    replace R9 := R9.upd hu6 (by omega)
    have hr96 := R9.lt
    clear hm5 hu6 LL hq hq2 hkS hb he hm6 R10
    have hq : Below w6.heap.size w6 (w6.alloc (.cells (u8s X) 33)) := (by repeat (first | with_reducible exact Below.refl _ _ | with_reducible assumption | refine Below.drew ?_ | refine below_drewN ?_ | refine Below.alloc ?_ (by first | omega | (simp; done) | (simp; omega)) _ | refine below_setRow ?_ (by omega) _ | refine Below.setCell ?_ (by first | omega | (simp; done) | (simp; omega)) _))
    replace R9 := R9.step hq
    replace HB := HB.trans (hq.mono HB.size)
    have R11 : RowIs (w6.alloc (.cells (u8s X) 33)) w6.heap.size (u8s X) := RowIs.new _ _ _
    have R9h := R9.has; have R9r := R9.row; have R9l := R9.lt; have R11h := R11.has; have R11r := R11.row; have R11l := R11.lt
    go_wp2_with fail
    go_ret
    exact ⟨by simp, HB⟩
  · have hL' : ¬ (64 : Int) < n0 := by omega
    obtain ⟨q, hq0⟩ : ∃ q : Nat, min z (64 - (n0 : Int)) = (q : Int) := ⟨(min z (64 - (n0 : Int))).toNat, by omega⟩
    have hqle : n0 + q ≤ 64 := by omega
    have hmz := HSH.out q (by omega)
    obtain ⟨K, hK⟩ : ∃ K, K = key ++ List.replicate q 0 := ⟨_, rfl⟩
    have hKl : K.length = n0 + q := by rw [hK]; simp [HN0.out]
    have M4 := Lib.hid (M3.out K (by omega))
    rw [← hK] at hmz
    rw [hmz] at M4
    have HK := Lib.hid hK.symm
    have HKL := Lib.hid hKl
    clear hmz hK hKl M2
    go_enter Tryd.func9, Tryd.ntmps9
    go_wp2_with fail
    refine (awake3_any _ he).mono ?_
    rintro e w1 ⟨rfl, HB⟩
    replace he := he.step HB; replace hk := hk.step HB; replace hb := hb.step HB
    go_wp2_with fail
    refine (new_any false _).mono ?_
    rintro e w2 ⟨g, rfl, hm0, hg, hb2⟩
    have hg0 : w.heap.size ≤ g := by have := HB.size; omega
    replace he := he.step hb2; replace hk := hk.step hb2; replace hb := hb.step hb2
    replace HB := HB.trans (hb2.mono HB.size)
    have hm := MetB.new hm0
    have hgl := RowIs.lt hm0
    clear hm0 hb2
    have hq : Below w2.heap.size w2 (w2.alloc (.cells #[.slice A1 n1 c1] 27)) := (by repeat (first | with_reducible exact Below.refl _ _ | with_reducible assumption | refine Below.drew ?_ | refine below_drewN ?_ | refine Below.alloc ?_ (by first | omega | (simp; done) | (simp; omega)) _ | refine below_setRow ?_ (by omega) _ | refine Below.setCell ?_ (by first | omega | (simp; done) | (simp; omega)) _))
    have LL := BsL.lit1 (gg := w2.heap.size) 27 (by simp) hb
    replace he := he.step hq; replace hk := hk.step hq; replace hb := hb.step hq; replace hm := hm.step hq
    replace HB := HB.trans (hq.mono HB.size)
    go_wp2_with fail
    refine (M1.out g _ _ _ hm he hk (BsLx.of LL (by omega))).mono ?_
    rintro e w3 ⟨rfl, hm3, hu3⟩
    replace HB := hu3.below HB hg0 HB.size
    replace he := hm.env he hu3
    replace hk := hk.upd hu3 hm.no8
    replace hb := hb.upd hu3 hm.no8
    clear hm hu3 LL hq
    have hq : Below w3.heap.size w3 (w3.alloc (.cells (u8s X) 33)) := (by repeat (first | with_reducible exact Below.refl _ _ | with_reducible assumption | refine Below.drew ?_ | refine below_drewN ?_ | refine Below.alloc ?_ (by first | omega | (simp; done) | (simp; omega)) _ | refine below_setRow ?_ (by omega) _ | refine Below.setCell ?_ (by first | omega | (simp; done) | (simp; omega)) _))
    have R9 : RowIs (w3.alloc (.cells (u8s X) 33)) w3.heap.size (u8s X) := RowIs.new _ _ _
    have hgl3 := hm3.lt
    replace he := he.step hq; replace hk := hk.step hq; replace hb := hb.step hq; replace hm3 := hm3.step hq
    replace HB := HB.trans (hq.mono HB.size)
    have hq2 : Below (w3.alloc (.cells (u8s X) 33)).heap.size (w3.alloc (.cells (u8s X) 33)) ((w3.alloc (.cells (u8s X) 33)).alloc (.cells #[] 5)) := (by repeat (first | with_reducible exact Below.refl _ _ | with_reducible assumption | refine Below.drew ?_ | refine below_drewN ?_ | refine Below.alloc ?_ (by first | omega | (simp; done) | (simp; omega)) _ | refine below_setRow ?_ (by omega) _ | refine Below.setCell ?_ (by first | omega | (simp; done) | (simp; omega)) _))
    have own0 := Own8.empty (T := 5) (g := w3.heap.size + 1) (w3.alloc (.cells (u8s X) 33)) (base := w3.heap.size + 1) (by simp) (by simp)
    have hk1 := hk.step hq2
    have hmin := hq0
    go_wp2_with (at_builtin; first | (refine wpList_appendBs Tryd.underlying27 Tryd.info8 rfl (.tmp 56) (.tmp 57) rfl (w3.heap.size + 1) rfl own0 rfl hk1 (List.nil_append _) HN0.out (by omega) (by simp) ?_; intro A5 c5 w5 own5 bel5) | (refine wpList_append8z Tryd.underlying27 Tryd.underlying3 Tryd.info8 rfl (.tmp 58) (.tmp 63) rfl (w3.heap.size + 1) (m := q) rfl own5 (by first | rfl | exact congrArg (Value.int .i64) hmin) HK.out HKL.out (by omega) (by have := bel5.size; simp at this; omega) ?_; intro A6 c6 w6 own6 bel6))
    have hr9 := R9.lt
    have hb6 : Below (w3.alloc (.cells (u8s X) 33)).heap.size (w3.alloc (.cells (u8s X) 33)) w6 := by
      have e : (w3.alloc (.cells (u8s X) 33)).heap.size = w3.heap.size + 1 := by simp
      rw [e] at hq2 ⊢
      exact (hq2.trans bel5).trans bel6
    have hs6 := hb6.size
    simp at hs6
    replace he := he.step hb6; replace hb := hb.step hb6; replace hm3 := hm3.step hb6; replace R9 := R9.step hb6
    replace HB := HB.trans (hb6.mono HB.size)
    have hkK : Bs w6 (.slice A6 (n0 + q) c6) K := by
      have := own6.bs (by rw [HKL.out]; omega)
      exact this
    clear hq hq2 own0 hk1 hk own5 own6 bel5 bel6 hb6
    have hq : Below w6.heap.size w6 (w6.alloc (.cells #[.slice A1 n1 c1] 27)) := (by repeat (first | with_reducible exact Below.refl _ _ | with_reducible assumption | refine Below.drew ?_ | refine below_drewN ?_ | refine Below.alloc ?_ (by first | omega | (simp; done) | (simp; omega)) _ | refine below_setRow ?_ (by omega) _ | refine Below.setCell ?_ (by first | omega | (simp; done) | (simp; omega)) _))
    have LL := BsL.lit1 (gg := w6.heap.size) 27 (by simp) hb
    have hr9' := R9.lt
    have hgm := hm3.lt
    replace he := he.step hq; replace hkK := hkK.step hq; replace hm3 := hm3.step hq; replace R9 := R9.step hq
    replace HB := HB.trans (hq.mono HB.size)
    refine (M4.out g _ _ _ hm3 he hkK (BsLx.of LL (by omega))).mono ?_
    rintro e w7 ⟨rfl, hm7, hu7⟩
    replace HB := hu7.below HB hg0 HB.size
    replace R9 := R9.upd hu7 (by omega)
    have hr97 := R9.lt
    clear hm3 hu7 LL hq hkK hb he hm7
    have hq : Below w7.heap.size w7 (w7.alloc (.cells (u8s X) 33)) := (by repeat (first | with_reducible exact Below.refl _ _ | with_reducible assumption | refine Below.drew ?_ | refine below_drewN ?_ | refine Below.alloc ?_ (by first | omega | (simp; done) | (simp; omega)) _ | refine below_setRow ?_ (by omega) _ | refine Below.setCell ?_ (by first | omega | (simp; done) | (simp; omega)) _))
    replace R9 := R9.step hq
    replace HB := HB.trans (hq.mono HB.size)
    have R11 : RowIs (w7.alloc (.cells (u8s X) 33)) w7.heap.size (u8s X) := RowIs.new _ _ _
    have R9h := R9.has; have R9r := R9.row; have R9l := R9.lt; have R11h := R11.has; have R11r := R11.row; have R11l := R11.lt
    go_wp2_with fail
    go_ret
    exact ⟨by simp, HB⟩
theorem walk_MacZeros (A0 : Option Addr) (c0 : Nat) (key : List UInt8) (A1 : Option Addr) (c1 : Nat) (b : List UInt8) (z : Int) (w : World) (he : ShaEnv w) (hc0 : key.length ≤ c0) (hr0 : Rd8 w w.heap.size A0 key) (hc1 : b.length ≤ c1) (hr1 : Rd8 w w.heap.size A1 b) (lo : -9223372036854775808 ≤ z) (hi : z ≤ 9223372036854775807) :
    Calls Tryd.prog 9 #[.slice A0 key.length c0, .slice A1 b.length c1, .int .i64 z] w (TrueRes' w) := by
  by_cases h : key.length ≤ 200 ∧ b.length ≤ 300 ∧ 0 ≤ z ∧ z ≤ 64
  · obtain ⟨h1, h2, h3, h4⟩ := h
    exact maczeros_any _ _ key b z w he (Bs.of hc0 (by omega) hr0) (Bs.of hc1 (by omega) hr1) h1 h2 h3 h4
  · obtain ⟨n0, hn0⟩ : ∃ n, key.length = n := ⟨_, rfl⟩
    obtain ⟨n1, hn1⟩ : ∃ n, b.length = n := ⟨_, rfl⟩
    rw [hn0, hn1] at h ⊢
    clear hr0 hr1 hc0 hc1 hn0 hn1
    have hd : (decide ((200 : Int) < n0) || decide ((300 : Int) < n1) || decide (z < 0) || decide ((64 : Int) < z)) = true := by simp; omega
    go_enter Tryd.func9, Tryd.ntmps9
    go_wp2_with (go_at_call 29; refine (awake3_any _ he).mono ?_; rintro e w1 ⟨rfl, hb1⟩)
    all_goals (go_ret; exact ⟨rfl, by assumption⟩)
end Go.Proofs.YtopmdbmnlflpgaaDoor
