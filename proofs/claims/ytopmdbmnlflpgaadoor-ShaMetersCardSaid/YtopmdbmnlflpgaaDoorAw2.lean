/- Layer 2: the chapter's examples. -/
import Derived.Test.YtopmdbmnlflpgaaDoorMet
import Derived.Test.YtopmdbmnlflpgaaDoorOctBs
namespace Go.Proofs.YtopmdbmnlflpgaaDoor
open Go.RowKit
def TrueRes' (w : World) (e : Ending) (w' : World) : Prop := e = .returned (.bool true) ∧ Below w.heap.size w w'
theorem first_any (v : Value) (l : List UInt8) (w : World) (hv : Bs w v l) (h4 : 4 ≤ l.length) : Calls Tryd.prog 67 #[v] w fun e w' => e = .returned (.int .u64 (n64 (numK (l.take 4) 4))) ∧ w = w' := by
  obtain ⟨A, c, rfl, -, -, -⟩ := id hv
  obtain ⟨n, hn⟩ : ∃ n, n = l.length := ⟨_, rfl⟩
  rw [← hn] at hv h4 ⊢
  have ht := hv.take 4 h4
  have hc4 : (4 : Int) ≤ c := by have := hv.rd; omega
  have hl4 : (l.take 4).length = 4 := by simp; omega
  have hf := refOfHigh_bs ht
  rw [hl4] at hf
  have HF := Lib.hid hf
  clear hf hl4 hn
  go_enter Tryd.func67, Tryd.ntmps67
  go_wp2_with fail
  refine HF.out.mono ?_
  rintro e w1 ⟨rfl, rfl⟩
  go_wp2_with fail
  go_ret
  exact ⟨rfl, rfl⟩
theorem first_at (v : Value) (l : List UInt8) (w : World) (hv : Bs w v l) (h4 : 4 ≤ l.length) (x : Int) (hx : n64 (numK (l.take 4) 4) = x) : Calls Tryd.prog 67 #[v] w fun e w' => e = .returned (.int .u64 x) ∧ w = w' := by
  subst hx; exact first_any v l w hv h4
theorem aw_n1 : n64 (numK ((shaB []).take 4) 4) = 3820012610 := by rw [sha_aw0.1, n64_def]; decide +kernel
theorem aw_n2 : n64 (numK ((((shaB []).drop 28).take 4).take 4) 4) = 2018687061 := by rw [sha_aw0.2, n64_def]; decide +kernel
theorem aw_n3 : n64 (numK ((shaB [97, 98, 99]).take 4) 4) = 3128432319 := by rw [sha_aw1.1, n64_def]; decide +kernel
theorem aw_n4 : n64 (numK ((((shaB [97, 98, 99]).drop 28).take 4).take 4) 4) = 4060091821 := by rw [sha_aw1.2, n64_def]; decide +kernel
theorem pad_at (n : Nat) (i : Int) (hi : i = n) (hn : n ≤ 35184372088000) (w : World) : Calls Tryd.prog 21 #[.int .i64 i] w (BsRes w (padB n)) := by
  subst hi; exact pad_any n hn w
theorem lit3 : #[Value.int .u8 97, .int .u8 98, .int .u8 99] = u8s [97, 98, 99] := by simp [u8s_def, n8_def]
theorem lit2 : #[Value.int .u8 98, .int .u8 99] = u8s [98, 99] := by simp [u8s_def, n8_def]
theorem lit1 : #[Value.int .u8 97] = u8s [97] := by simp [u8s_def, n8_def]
theorem Bs.lit {w : World} {g n : Nat} (l : List UInt8) (T : TypeId) (hg : g = w.heap.size) (hn : l.length = n) (hm : n ≤ 1000) : Bs (w.alloc (.cells (u8s l) T)) (.slice (some ⟨g, 0, none⟩) n n) l := by
  subst hg
  exact Bs.row (RowIs.new _ _ _) n n hn.symm (Nat.le_refl _) (by omega)
theorem blit3 {w : World} {g : Nat} (T : TypeId) (hg : g = w.heap.size) : Bs (w.alloc (.cells #[.int .u8 97, .int .u8 98, .int .u8 99] T)) (.slice (some ⟨g, 0, none⟩) 3 3) [97, 98, 99] := by
  rw [lit3]; exact Bs.lit _ _ hg rfl (by omega)
theorem blit2 {w : World} {g : Nat} (T : TypeId) (hg : g = w.heap.size) : Bs (w.alloc (.cells #[.int .u8 98, .int .u8 99] T)) (.slice (some ⟨g, 0, none⟩) 2 2) [98, 99] := by
  rw [lit2]; exact Bs.lit _ _ hg rfl (by omega)
theorem blit1 {w : World} {g : Nat} (T : TypeId) (hg : g = w.heap.size) : Bs (w.alloc (.cells #[.int .u8 97] T)) (.slice (some ⟨g, 0, none⟩) 1 1) [97] := by
  rw [lit1]; exact Bs.lit _ _ hg rfl (by omega)
set_option maxRecDepth 100000 in
set_option maxHeartbeats 1600000 in
theorem awake_any (w : World) (he : ShaEnv w) : Calls Tryd.prog 19 #[] w (TrueRes' w) := by
  obtain ⟨k1, hk1⟩ : ∃ k, k = shaB [] := ⟨_, rfl⟩
  obtain ⟨k2, hk2⟩ : ∃ k, k = shaB [97, 98, 99] := ⟨_, rfl⟩
  have n1 := aw_n1; have n2 := aw_n2; have n3 := aw_n3; have n4 := aw_n4
  rw [← hk1] at n1 n2
  rw [← hk2] at n3 n4
  have kl1 : k1.length = 32 := by rw [hk1, shaB_length]
  have kl2 : k2.length = 32 := by rw [hk2, shaB_length]
  have N1 := Lib.hid n1; have N2 := Lib.hid n2; have N3 := Lib.hid n3; have N4 := Lib.hid n4
  have s1 := fun g n all vl w hm hall hr he h1 h2 => meterSum_any g n all vl [] w hm hall hr (by simp) he h1 h2
  have s2 := fun g n all vl w hm hall hr he h1 h2 => meterSum_any g n all vl [[97, 98, 99]] w hm hall hr (by simp) he h1 h2
  have s3 := fun g n all vl w hm hall hr he h1 h2 => meterSum_any g n all vl [[97], [98, 99]] w hm hall hr (by simp) he h1 h2
  unfold SumRes at s1 s2 s3
  rw [show ([] : List (List UInt8)).flatten = [] from rfl, ← hk1] at s1
  rw [show ([[97, 98, 99]] : List (List UInt8)).flatten = [97, 98, 99] from rfl, ← hk2] at s2
  rw [show ([[97], [98, 99]] : List (List UInt8)).flatten = [97, 98, 99] from rfl, ← hk2] at s3
  have H1 := Lib.hid s1; have H2 := Lib.hid s2; have H3 := Lib.hid s3
  have p1 := fun w => pad_at 55 55 rfl (by omega) w
  have p2 := fun w => pad_at 56 56 rfl (by omega) w
  have pl1 : (padB 55).length = 9 := by rw [padB_length]; rfl
  have pl2 : (padB 56).length = 72 := by rw [padB_length]; rfl
  obtain ⟨P1, hP1⟩ : ∃ p, p = padB 55 := ⟨_, rfl⟩
  obtain ⟨P2, hP2⟩ : ∃ p, p = padB 56 := ⟨_, rfl⟩
  rw [← hP1] at p1 pl1
  rw [← hP2] at p2 pl2
  have Q1 := Lib.hid p1; have Q2 := Lib.hid p2
  clear hk1 hk2 n1 n2 n3 n4 s1 s2 s3 p1 p2 hP1 hP2
  go_enter Tryd.func19, Tryd.ntmps19
  go_wp2_with fail
  refine (new_any false _).mono ?_
  rintro e w1 ⟨g, rfl, hm, hg, HB⟩
  replace he := he.step HB
  go_wp2_with fail
  refine (H1.out g 0 _ _ _ hm (fun b h => by cases h) (BsL.nil _) he (by omega) (by omega)).mono ?_
  rintro e w2 ⟨rfl, hm2, hu2⟩
  replace he := he.upd hm hu2
  replace HB := hu2.below HB hg HB.size
  clear hm hu2
  go_wp2_with fail
  have hq2 : Below w2.heap.size w2 (((w2.alloc (.cells (u8s k1) 33)).alloc (.cells #[.int .u8 97, .int .u8 98, .int .u8 99] 5)).alloc (.cells #[.slice (some ⟨w2.heap.size + 1, 0, none⟩) 3 3] 27)) := (by repeat (first | with_reducible exact Below.refl _ _ | with_reducible assumption | refine Below.drew ?_ | refine below_drewN ?_ | refine Below.alloc ?_ (by first | omega | (simp; done) | (simp; omega)) _ | refine below_setRow ?_ (by omega) _ | refine Below.setCell ?_ (by first | omega | (simp; done) | (simp; omega)) _))
  have R1 : RowIs (((w2.alloc (.cells (u8s k1) 33)).alloc (.cells #[.int .u8 97, .int .u8 98, .int .u8 99] 5)).alloc (.cells #[.slice (some ⟨w2.heap.size + 1, 0, none⟩) 3 3] 27)) w2.heap.size (u8s k1) := ((RowIs.new _ _ _).alloc _).alloc _
  replace hm2 := hm2.step hq2
  replace he := he.step hq2
  replace HB := HB.trans (hq2.mono HB.size)
  have hl2 := R1.lt
  refine (H2.out g _ _ _ _ hm2 (fun b h => by cases h) (BsL.lit1 (gg := w2.heap.size + 1 + 1) _ (by simp) (blit3 (g := w2.heap.size + 1) _ (by simp))) he (by omega) (by omega)).mono ?_
  rintro e w3 ⟨rfl, hm3, hu3⟩
  replace R1 := R1.upd hu3 (row8_ne hm2 R1 (by omega))
  replace he := he.upd hm2 hu3
  replace HB := hu3.below HB hg HB.size
  clear hm2 hu3 hq2
  go_wp2_with fail
  have hq3 : Below w3.heap.size w3 ((((w3.alloc (.cells (u8s k2) 33)).alloc (.cells #[.int .u8 97] 5)).alloc (.cells #[.int .u8 98, .int .u8 99] 5)).alloc (.cells #[.slice (some ⟨w3.heap.size + 1, 0, none⟩) 1 1, .slice (some ⟨w3.heap.size + 1 + 1, 0, none⟩) 2 2] 27)) := (by repeat (first | with_reducible exact Below.refl _ _ | with_reducible assumption | refine Below.drew ?_ | refine below_drewN ?_ | refine Below.alloc ?_ (by first | omega | (simp; done) | (simp; omega)) _ | refine below_setRow ?_ (by omega) _ | refine Below.setCell ?_ (by first | omega | (simp; done) | (simp; omega)) _))
  have R2 : RowIs ((((w3.alloc (.cells (u8s k2) 33)).alloc (.cells #[.int .u8 97] 5)).alloc (.cells #[.int .u8 98, .int .u8 99] 5)).alloc (.cells #[.slice (some ⟨w3.heap.size + 1, 0, none⟩) 1 1, .slice (some ⟨w3.heap.size + 1 + 1, 0, none⟩) 2 2] 27)) w3.heap.size (u8s k2) := (((RowIs.new _ _ _).alloc _).alloc _).alloc _
  replace R1 := R1.step hq3
  replace hm3 := hm3.step hq3
  replace he := he.step hq3
  replace HB := HB.trans (hq3.mono HB.size)
  refine (H3.out g _ _ _ _ hm3 (fun b h => by cases h) (BsL.lit2 (gg := w3.heap.size + 1 + 1 + 1) _ (by simp) ((blit1 (g := w3.heap.size + 1) _ (by simp)).step ((Below.refl _ _).alloc (Nat.le_refl _) _)) (blit2 (g := w3.heap.size + 1 + 1) _ (by simp))) he (by omega) (by omega)).mono ?_
  rintro e w4 ⟨rfl, hm4, hu4⟩
  replace R1 := R1.upd hu4 (row8_ne hm3 R1 (by omega))
  replace R2 := R2.upd hu4 (row8_ne hm3 R2 (by omega))
  replace HB := hu4.below HB hg HB.size
  clear hm3 hu4 hq3 hm4 he
  go_wp2_with fail
  have hq4 : Below w4.heap.size w4 (w4.alloc (.cells (u8s k2) 33)) := (by repeat (first | with_reducible exact Below.refl _ _ | with_reducible assumption | refine Below.drew ?_ | refine below_drewN ?_ | refine Below.alloc ?_ (by first | omega | (simp; done) | (simp; omega)) _ | refine below_setRow ?_ (by omega) _ | refine Below.setCell ?_ (by first | omega | (simp; done) | (simp; omega)) _))
  have R3 : RowIs (w4.alloc (.cells (u8s k2) 33)) w4.heap.size (u8s k2) := RowIs.new _ _ _
  replace R1 := R1.step hq4; replace R2 := R2.step hq4
  replace HB := HB.trans (hq4.mono HB.size)
  refine (Q1.out _).mono ?_
  rintro e w5 ⟨v5, rfl, hv5, hb5⟩
  replace R1 := R1.step hb5; replace R2 := R2.step hb5; replace R3 := R3.step hb5
  replace HB := HB.trans (hb5.mono HB.size)
  go_wp2_with fail
  refine (Q2.out _).mono ?_
  rintro e w6 ⟨v6, rfl, hv6, hb6⟩
  replace R1 := R1.step hb6; replace R2 := R2.step hb6; replace R3 := R3.step hb6; replace hv5 := hv5.step hb6
  replace HB := HB.trans (hb6.mono HB.size)
  clear hb5 hb6 hq4 hl2 hg
  obtain ⟨A5, c5, rfl, -, -, -⟩ := hv5
  obtain ⟨A6, c6, rfl, -, -, -⟩ := hv6
  have R1h := R1.has; have R1r := R1.row; have R1l := R1.lt; have R2h := R2.has; have R2r := R2.row; have R2l := R2.lt; have R3h := R3.has; have R3r := R3.row; have R3l := R3.lt
  go_wp2_with fail
  refine (first_at _ k1 _ (Bs.row R1 32 32 kl1.symm (Nat.le_refl _) (by omega)) (by omega) _ N1.out).mono ?_
  rintro e w7 ⟨rfl, rfl⟩
  go_wp2_with fail
  refine (first_at _ ((k1.drop 28).take 4) _ (Bs.part R1 28 4 4 (by omega) (Nat.le_refl _) (by omega)) (by simp; omega) _ N2.out).mono ?_
  rintro e w7 ⟨rfl, rfl⟩
  go_wp2_with fail
  refine (first_at _ k2 _ (Bs.row R2 32 32 kl2.symm (Nat.le_refl _) (by omega)) (by omega) _ N3.out).mono ?_
  rintro e w7 ⟨rfl, rfl⟩
  go_wp2_with fail
  refine (first_at _ ((k2.drop 28).take 4) _ (Bs.part R2 28 4 4 (by omega) (Nat.le_refl _) (by omega)) (by simp; omega) _ N4.out).mono ?_
  rintro e w7 ⟨rfl, rfl⟩
  go_wp2_with fail
  go_ret
  exact ⟨by simp, HB⟩
end Go.Proofs.YtopmdbmnlflpgaaDoor
