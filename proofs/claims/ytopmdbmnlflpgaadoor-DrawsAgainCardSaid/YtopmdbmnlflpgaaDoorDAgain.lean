/- DrawsAgain: the walk of the statement's function. -/
import Derived.Test.YtopmdbmnlflpgaaDoorDrs
namespace Go.Proofs.YtopmdbmnlflpgaaDoor
open Go.RowKit
attribute [local go_sem ↓] xsrcBuild xbslK kloadX
attribute [local go_sem] srcBuild srcBuild2 bslK3
def Five (b1 b2 b3 s t : Nat) (K1 K2 K3 key : List UInt8) (m : UInt64) (w : World) : Prop := RowIs w b1 (u8s K1) ∧ RowIs w b2 (u8s K2) ∧ RowIs w b3 (u8s K3) ∧ Src w s key m ∧ Src w t key m
theorem Five.step {b1 b2 b3 s t : Nat} {K1 K2 K3 key : List UInt8} {m : UInt64} {w w' : World} (h : Five b1 b2 b3 s t K1 K2 K3 key m w) (hb : Below w.heap.size w w') : Five b1 b2 b3 s t K1 K2 K3 key m w' :=
  ⟨h.1.step hb, h.2.1.step hb, h.2.2.1.step hb, RowIs.step h.2.2.2.1 hb, RowIs.step h.2.2.2.2 hb⟩
theorem lab3_le (a b c : List UInt8) (ha : a.length ≤ 50) (hb : b.length ≤ 50) (hc : c.length ≤ 50) : ∀ k, k < [a, b, c].length → (nthL [a, b, c] k).length ≤ 300 := fun k hk => by
  have hk' : k < 3 := hk
  have : k = 0 ∨ k = 1 ∨ k = 2 := by omega
  rcases this with rfl | rfl | rfl <;> (simp [nthL_def]; omega)
theorem draws3 (key : List UInt8) (n : UInt64) (a b c : List UInt8) : drwsK key n [a, b, c] 3 = [drwK key n a, drwK key (n + 1) b, drwK key (n + 1 + 1) c] := by
  have h1 := add_nat n 0
  have h2 := add_nat n 1
  rw [show UInt64.ofNat 0 = 0 from rfl, UInt64.add_zero] at h1
  rw [← h1] at h2
  simp only [drwsK, nthL_def, List.nil_append, List.singleton_append, List.cons_append, List.getD_cons_zero, List.getD_cons_succ]
  rw [show UInt64.ofNat 0 = 0 from rfl, UInt64.add_zero, ← h2, ← h1]
set_option maxRecDepth 100000 in
set_option maxHeartbeats 6400000 in
theorem drawsagain_any (key : List UInt8) (hkey : key.length = 32) (n : UInt64) (hn : n.toNat ≤ 1152921504606846976) (a b c : List UInt8) (w : World) (he : ShaEnv w) (h1 : a.length ≤ 50) (h2 : b.length ≤ 50) (h3 : c.length ≤ 50) :
    Calls Tryd.prog 16 #[.agg (u8s key), .int .u64 (n64 n), .string ⟨a.toArray⟩, .string ⟨b.toArray⟩, .string ⟨c.toArray⟩] w (TrueRes' w) := by
  obtain ⟨K1, hK1⟩ : ∃ K, K = drwK key n a := ⟨_, rfl⟩
  obtain ⟨K2, hK2⟩ : ∃ K, K = drwK key (n + 1) b := ⟨_, rfl⟩
  obtain ⟨K3, hK3⟩ : ∃ K, K = drwK key (n + 1 + 1) c := ⟨_, rfl⟩
  have hl1 : K1.length = 32 := by rw [hK1, drwK_length]
  have hl2 : K2.length = 32 := by rw [hK2, drwK_length]
  have hl3 : K3.length = 32 := by rw [hK3, drwK_length]
  have hd3 : drwsK key n [a, b, c] 3 = [K1, K2, K3] := by rw [draws3, hK1, hK2, hK3]
  have q1 := add_nat n 0
  have q2 := add_nat n 1
  have q3 := add_nat n 2
  rw [show UInt64.ofNat 0 = 0 from rfl, UInt64.add_zero] at q1
  rw [← q1] at q2
  rw [← q2] at q3
  have hne0 : n ≠ 18446744073709551615 := by have := add_ne n 0 3 (by omega) (by omega); rwa [show UInt64.ofNat 0 = 0 from rfl, UInt64.add_zero] at this
  have hne1 : n + 1 ≠ 18446744073709551615 := by have := add_ne n 1 3 (by omega) (by omega); rwa [← q1] at this
  have hne2 : n + 1 + 1 ≠ 18446744073709551615 := by have := add_ne n 2 3 (by omega) (by omega); rwa [← q2] at this
  have hn3 : IntKind.u64.wrap (n64 n + 3) = n64 (n + 1 + 1 + 1) := by
    rw [q3, n64_def, n64_def, wrap_u64, UInt64.toNat_add, UInt64.toNat_ofNat']; omega
  obtain ⟨m3, hm3⟩ : ∃ m, m = n + 1 + 1 + 1 := ⟨_, rfl⟩
  have ss := fun g s hgs lb h1' h2' (w : World) h4 h5 h6 h7 h8 => some_any g s hgs 0 key hkey n lb h1' h2' [a, b, c] (by simp) (by simp; omega) (lab3_le a b c h1 h2 h3) w h4 h5 h6 h7 h8 (by omega)
  have n1 := fun g s hgs (w : World) h1' h2' h3' => next_any g s hgs (0 + 4 * 3) key hkey n hne0 a (by omega) w h1' h2' h3' (by omega)
  have n2 := fun g s hgs (w : World) h1' h2' h3' => next_any g s hgs (0 + 4 * 3 + 4) key hkey (n + 1) hne1 b (by omega) w h1' h2' h3' (by omega)
  have n3 := fun g s hgs (w : World) h1' h2' h3' => next_any g s hgs (0 + 4 * 3 + 4 + 4) key hkey (n + 1 + 1) hne2 c (by omega) w h1' h2' h3' (by omega)
  have jj := fun s (w : World) hS => jump_ok s key hkey 0 n (by rw [show (0 : UInt64).toNat = 0 from rfl]; omega) w hS
  unfold SomeRes at ss
  unfold nextRes at n1 n2 n3
  simp only [← drwK_def] at n1 n2 n3
  simp only [show [a, b, c].length = 3 from rfl] at ss
  rw [hd3, ← q3, ← hm3] at ss
  rw [← hK1] at n1
  rw [← hK2] at n2
  rw [← hK3, ← hm3] at n3
  rw [← hm3] at hn3
  obtain ⟨S1, hS1⟩ : ∃ S : ByteArray, S = ⟨a.toArray⟩ := ⟨_, rfl⟩
  obtain ⟨S2, hS2⟩ : ∃ S : ByteArray, S = ⟨b.toArray⟩ := ⟨_, rfl⟩
  obtain ⟨S3, hS3⟩ : ∃ S : ByteArray, S = ⟨c.toArray⟩ := ⟨_, rfl⟩
  have hz1 : S1.size = a.length := by rw [hS1]; simp [ByteArray.size]
  have hz2 : S2.size = b.length := by rw [hS2]; simp [ByteArray.size]
  have hz3 : S3.size = c.length := by rw [hS3]; simp [ByteArray.size]
  have hstr : strs [a, b, c] = #[.string S1, .string S2, .string S3] := by rw [hS1, hS2, hS3]; rfl
  rw [hstr] at ss
  rw [← hS1] at n1 ⊢
  rw [← hS2] at n2 ⊢
  rw [← hS3] at n3 ⊢
  have SS := Lib.hid ss; have N1 := Lib.hid n1; have N2 := Lib.hid n2; have N3 := Lib.hid n3; have JJ := Lib.hid jj
  obtain ⟨l1, hl1'⟩ : ∃ l, a.length = l := ⟨_, rfl⟩
  obtain ⟨l2, hl2'⟩ : ∃ l, b.length = l := ⟨_, rfl⟩
  obtain ⟨l3, hl3'⟩ : ∃ l, c.length = l := ⟨_, rfl⟩
  rw [hl1'] at hz1 h1
  rw [hl2'] at hz2 h2
  rw [hl3'] at hz3 h3
  have i0 : ¬ (1152921504606846976 : Int) < n64 n := by rw [n64_def]; omega
  have i1 : ¬ (50 : Int) < l1 := by omega
  have i2 : ¬ (50 : Int) < l2 := by omega
  have i3 : ¬ (50 : Int) < l3 := by omega
  clear ss n1 n2 n3 jj hK1 hK2 hK3 hd3 q1 q2 q3 hne0 hne1 hne2 hS1 hS2 hS3 hstr hl1' hl2' hl3' hm3
  have hq0 : Below w.heap.size w (w.alloc (.cells (u8s key) 33)) := (by repeat (first | with_reducible exact Below.refl _ _ | with_reducible assumption | refine Below.drew ?_ | refine below_drewN ?_ | refine Below.alloc ?_ (by first | omega | (simp; done) | (simp; omega)) _ | refine below_setRow ?_ (by omega) _ | refine Below.setCell ?_ (by first | omega | (simp; done) | (simp; omega)) _))
  have R0 : RowIs (w.alloc (.cells (u8s key) 33)) w.heap.size (u8s key) := RowIs.new _ _ _
  have he1 := he.rounds.lt
  have he2 := he.start.lt
  go_enter Tryd.func16, Tryd.ntmps16
  go_wp2_with fail
  refine (awake13_any _ (he.step hq0)).mono ?_
  rintro e w1 ⟨rfl, HB⟩
  replace he := he.step hq0
  replace he := he.step HB; replace R0 := R0.step HB
  replace HB := hq0.trans (HB.mono hq0.size)
  clear hq0
  go_wp2_with fail
  refine (new_any false _).mono ?_
  rintro e w2 ⟨g, rfl, hm0, hg, hb2⟩
  have hg0 : w.heap.size ≤ g := by have := HB.size; omega
  have hr1 := R0.lt
  replace he := he.step hb2; replace R0 := R0.step hb2
  replace HB := HB.trans (hb2.mono HB.size)
  have hm := MetB.new hm0
  have hgl := RowIs.lt hm0
  clear hm0 hb2
  have hbz := HB.size
  have K0 := kload R0 hkey
  have hA : Below w2.heap.size w2 (w2.alloc (.cells (srcC key n) 83)) := (by repeat (first | with_reducible exact Below.refl _ _ | with_reducible assumption | refine Below.drew ?_ | refine below_drewN ?_ | refine Below.alloc ?_ (by first | omega | (simp; done) | (simp; omega)) _ | refine below_setRow ?_ (by omega) _ | refine Below.setCell ?_ (by first | omega | (simp; done) | (simp; omega)) _))
  have K0' := kload (R0.step hA) hkey
  have hb3 : Below w2.heap.size w2 ((w2.alloc (.cells (srcC key n) 83)).alloc (.cells (srcC key 0) 83)) := (by repeat (first | with_reducible exact Below.refl _ _ | with_reducible assumption | refine Below.drew ?_ | refine below_drewN ?_ | refine Below.alloc ?_ (by first | omega | (simp; done) | (simp; omega)) _ | refine below_setRow ?_ (by omega) _ | refine Below.setCell ?_ (by first | omega | (simp; done) | (simp; omega)) _))
  have hs : Src ((w2.alloc (.cells (srcC key n) 83)).alloc (.cells (srcC key 0) 83)) w2.heap.size key n := (RowIs.new _ _ _).alloc _
  have ht : Src ((w2.alloc (.cells (srcC key n) 83)).alloc (.cells (srcC key 0) 83)) (w2.heap.size + 1) key 0 := RowIs.new' (by simp)
  replace he := he.step hb3; replace hm := hm.step hb3
  replace HB := HB.trans (hb3.mono HB.size)
  have hx1 : NotEnv g w2.heap.size := ⟨by omega, by omega, by omega, by omega⟩
  have hx2 : NotEnv g (w2.heap.size + 1) := ⟨by omega, by omega, by omega, by omega⟩
  clear hA hb3 R0
  go_wp2_with fail
  refine (JJ.out _ _ ht).mono ?_
  rintro e w3 ⟨rfl, ht3, hu3⟩
  replace hs := RowIs.upd hs hu3 (by omega)
  replace hm : MetB w3 g 0 := by
    obtain ⟨i, q0, q1, q2⟩ := hm
    exact ⟨i, q0, q1, RowIs.upd q2 hu3 (by omega)⟩
  replace he : ShaEnv w3 := ⟨he.rounds.upd hu3 hx2.2.2.1, he.start.upd hu3 hx2.2.2.2⟩
  replace HB := hu3.below HB (by omega) HB.size
  have hsz3 := hu3.size
  simp at hsz3
  clear ht hu3 K0 K0'
  have hb3 : Below w3.heap.size w3 (w3.alloc (.cells #[.string S1, .string S2, .string S3] 9)) := (by repeat (first | with_reducible exact Below.refl _ _ | with_reducible assumption | refine Below.drew ?_ | refine below_drewN ?_ | refine Below.alloc ?_ (by first | omega | (simp; done) | (simp; omega)) _ | refine below_setRow ?_ (by omega) _ | refine Below.setCell ?_ (by first | omega | (simp; done) | (simp; omega)) _))
  have hr : RowIs (w3.alloc (.cells #[.string S1, .string S2, .string S3] 9)) w3.heap.size #[.string S1, .string S2, .string S3] := RowIs.new _ _ _
  have hgl3 := hm.lt
  replace he := he.step hb3; replace hm := hm.step hb3
  replace hs : Src _ w2.heap.size key n := RowIs.step hs hb3
  replace ht3 : Src _ (w2.heap.size + 1) key n := RowIs.step ht3 hb3
  replace HB := HB.trans (hb3.mono HB.size)
  have hbz3 := HB.size
  clear hb3
  go_wp2_with fail
  refine (SS.out g w2.heap.size (by omega) w3.heap.size (by omega) (by omega) _ hm he hx1 hs hr).mono ?_
  rintro e w4 ⟨v, rfl, own, hs4, hm4, hU4⟩
  obtain ⟨Av, cv, rfl⟩ := own.slice
  replace own := own.more (show w3.heap.size ≤ _ by simp)
  replace ht3 : Src w4 (w2.heap.size + 1) key n := RowIs.upd2 ht3 hU4 (by omega) (by omega)
  replace he := he.upd2 hx1 hU4
  have hsz4 := hU4.size
  simp at hsz4
  replace HB := hU4.below HB (by omega) (by omega) HB.size
  clear hs hm hU4 hr
  go_wp2_with fail
  refine (N1.out g (w2.heap.size + 1) (by omega) _ hm4 he ht3).mono ?_
  rintro e w5 ⟨rfl, htw5, hmw5, hU⟩
  replace own := own.upd2 hU (by omega) (by omega)
  replace he := he.upd2 hx2 hU
  replace hs4 : Src w5 w2.heap.size key m3 := RowIs.upd2 hs4 hU (by omega) (by omega)
  have hsz := hU.size
  try simp at hsz
  replace HB := hU.below HB (by omega) (by omega) HB.size
  clear hm4 ht3 hU
  have hb : Below w5.heap.size w5 (w5.alloc (.cells (u8s K1) 33)) := (by repeat (first | with_reducible exact Below.refl _ _ | with_reducible assumption | refine Below.drew ?_ | refine below_drewN ?_ | refine Below.alloc ?_ (by first | omega | (simp; done) | (simp; omega)) _ | refine below_setRow ?_ (by omega) _ | refine Below.setCell ?_ (by first | omega | (simp; done) | (simp; omega)) _))
  have Q1 : RowIs (w5.alloc (.cells (u8s K1) 33)) w5.heap.size (u8s K1) := RowIs.new _ _ _
  have hm4 := hmw5.step hb
  have ht3 : Src _ (w2.heap.size + 1) key (n + 1) := RowIs.step htw5 hb
  replace hs4 : Src _ w2.heap.size key m3 := RowIs.step hs4 hb
  replace own := own.step hb
  replace he := he.step hb
  have hzw5 := HB.size
  replace HB := HB.trans (hb.mono HB.size)
  clear hb hmw5 htw5
  go_wp2_with fail
  refine (N2.out g (w2.heap.size + 1) (by omega) _ hm4 he ht3).mono ?_
  rintro e w6 ⟨rfl, htw6, hmw6, hU⟩
  replace own := own.upd2 hU (by omega) (by omega)
  replace he := he.upd2 hx2 hU
  replace hs4 : Src w6 w2.heap.size key m3 := RowIs.upd2 hs4 hU (by omega) (by omega)
  replace Q1 := Q1.upd2 hU (by omega) (by omega)
  have hsz := hU.size
  try simp at hsz
  replace HB := hU.below HB (by omega) (by omega) HB.size
  clear hm4 ht3 hU
  have hb : Below w6.heap.size w6 (w6.alloc (.cells (u8s K2) 33)) := (by repeat (first | with_reducible exact Below.refl _ _ | with_reducible assumption | refine Below.drew ?_ | refine below_drewN ?_ | refine Below.alloc ?_ (by first | omega | (simp; done) | (simp; omega)) _ | refine below_setRow ?_ (by omega) _ | refine Below.setCell ?_ (by first | omega | (simp; done) | (simp; omega)) _))
  have Q2 : RowIs (w6.alloc (.cells (u8s K2) 33)) w6.heap.size (u8s K2) := RowIs.new _ _ _
  have hm4 := hmw6.step hb
  have ht3 : Src _ (w2.heap.size + 1) key (n + 1 + 1) := RowIs.step htw6 hb
  replace hs4 : Src _ w2.heap.size key m3 := RowIs.step hs4 hb
  replace own := own.step hb
  replace he := he.step hb
  replace Q1 := Q1.step hb
  have hzw6 := HB.size
  replace HB := HB.trans (hb.mono HB.size)
  clear hb hmw6 htw6
  go_wp2_with fail
  refine (N3.out g (w2.heap.size + 1) (by omega) _ hm4 he ht3).mono ?_
  rintro e w7 ⟨rfl, htw7, hmw7, hU⟩
  replace own := own.upd2 hU (by omega) (by omega)
  replace he := he.upd2 hx2 hU
  replace hs4 : Src w7 w2.heap.size key m3 := RowIs.upd2 hs4 hU (by omega) (by omega)
  replace Q1 := Q1.upd2 hU (by omega) (by omega)
  replace Q2 := Q2.upd2 hU (by omega) (by omega)
  have hsz := hU.size
  try simp at hsz
  replace HB := hU.below HB (by omega) (by omega) HB.size
  clear hm4 ht3 hU
  have hb : Below w7.heap.size w7 (w7.alloc (.cells (u8s K3) 33)) := (by repeat (first | with_reducible exact Below.refl _ _ | with_reducible assumption | refine Below.drew ?_ | refine below_drewN ?_ | refine Below.alloc ?_ (by first | omega | (simp; done) | (simp; omega)) _ | refine below_setRow ?_ (by omega) _ | refine Below.setCell ?_ (by first | omega | (simp; done) | (simp; omega)) _))
  have Q3 : RowIs (w7.alloc (.cells (u8s K3) 33)) w7.heap.size (u8s K3) := RowIs.new _ _ _
  have hm4 := hmw7.step hb
  have ht3 : Src _ (w2.heap.size + 1) key m3 := RowIs.step htw7 hb
  replace hs4 : Src _ w2.heap.size key m3 := RowIs.step hs4 hb
  replace own := own.step hb
  replace he := he.step hb
  replace Q1 := Q1.step hb
  replace Q2 := Q2.step hb
  have hzw7 := HB.size
  replace HB := HB.trans (hb.mono HB.size)
  clear hb hmw7 htw7
  go_wp2_with fail
  obtain ⟨w8, hw8⟩ : ∃ w8, w8 = w7.alloc (.cells (u8s K3) 33) := ⟨_, rfl⟩
  rw [← hw8] at Q1 Q2 Q3 hs4 ht3 own HB ⊢
  have hS : Five w5.heap.size w6.heap.size w7.heap.size w2.heap.size (w2.heap.size + 1) K1 K2 K3 key m3 w8.drew := ⟨Q1.drew, Q2.drew, Q3.drew, RowIs.drew hs4, RowIs.drew ht3⟩
  refine wp_region_lexS [] [11, 12, 13, 21, 25, 32] (Five w5.heap.size w6.heap.size w7.heap.size w2.heap.size (w2.heap.size + 1) K1 K2 K3 key m3) (by kernel_rfl) (by decide +kernel) hS (fun _ => ?_)
  have hd : Below w8.heap.size w8 w8.drew := (by repeat (first | with_reducible exact Below.refl _ _ | with_reducible assumption | refine Below.drew ?_ | refine below_drewN ?_ | refine Below.alloc ?_ (by first | omega | (simp; done) | (simp; omega)) _ | refine below_setRow ?_ (by omega) _ | refine Below.setCell ?_ (by first | omega | (simp; done) | (simp; omega)) _))
  replace own := own.step hd
  replace HB := HB.trans (hd.mono HB.size)
  generalize w8.drew = w9 at own HB hS ⊢
  clear hd hw8 Q1 Q2 Q3 hs4 ht3 hm4 he
  (go_wp2_with (first | (refine wpLexS_nil ?_) | (refine wpLexS_pure rfl (fun _ _ => ?_); go_simp; refine ⟨_, fun w9 hw9 => (by have s1 := kload hw9.1 hl1; have s2 := kload hw9.2.1 hl2; have s3 := kload hw9.2.2.1 hl3; have s4 := hw9.2.2.2.1.num hkey; have s5 := hw9.2.2.2.2.num hkey; go_simp; rfl), ?_⟩) | (refine wpLexS_pure0 rfl (fun _ _ => ?_); go_simp; try go_bits) | (refine wpLexS_read rfl (fun _ _ => ?_); go_simp; try go_bits) | (refine wpLexS_loud rfl (fun KL hKL => ?_))))
  have hq : Below w9.heap.size w9 (w9.alloc (.cells (flatK [K1, K2, K3]).toArray 33)) := (by repeat (first | with_reducible exact Below.refl _ _ | with_reducible assumption | refine Below.drew ?_ | refine below_drewN ?_ | refine Below.alloc ?_ (by first | omega | (simp; done) | (simp; omega)) _ | refine below_setRow ?_ (by omega) _ | refine Below.setCell ?_ (by first | omega | (simp; done) | (simp; omega)) _))
  have k2 := KsL.row3 hl1 hl2 hl3 (RowIs.new w9 (flatK [K1, K2, K3]).toArray 33)
  have hks : ∀ k ∈ [K1, K2, K3], k.length = 32 := by simp [hl1, hl2, hl3]
  replace own := own.step hq
  replace hS := hS.step hq
  replace HB := HB.trans (hq.mono HB.size)
  refine hKL _ _ hS (fun _ => ?_)
  clear hq
  (go_wp2_with (first | (refine wpLexS_nil ?_) | (refine wpLexS_pure rfl (fun _ _ => ?_); go_simp; refine ⟨_, fun w9 hw9 => (by have s1 := kload hw9.1 hl1; have s2 := kload hw9.2.1 hl2; have s3 := kload hw9.2.2.1 hl3; have s4 := hw9.2.2.2.1.num hkey; have s5 := hw9.2.2.2.2.num hkey; go_simp; rfl), ?_⟩) | (refine wpLexS_pure0 rfl (fun _ _ => ?_); go_simp; try go_bits) | (refine wpLexS_read rfl (fun _ _ => ?_); go_simp; try go_bits) | (refine wpLexS_loud rfl (fun KL hKL => ?_))))
  refine (keys_same _ _ [K1, K2, K3] hks (by simp) _ (own.ks hks) k2).mono ?_
  rintro e w10 ⟨rfl, hb10⟩
  replace hS := hS.step hb10
  replace HB := HB.trans (hb10.mono HB.size)
  clear own k2 hb10
  go_wp2_with fail
  refine hKL _ _ hS (fun _ => ?_)
  (go_wp2_with (first | (refine wpLexS_nil ?_) | (refine wpLexS_pure rfl (fun _ _ => ?_); go_simp; refine ⟨_, fun w9 hw9 => (by have s1 := kload hw9.1 hl1; have s2 := kload hw9.2.1 hl2; have s3 := kload hw9.2.2.1 hl3; have s4 := hw9.2.2.2.1.num hkey; have s5 := hw9.2.2.2.2.num hkey; go_simp; rfl), ?_⟩) | (refine wpLexS_pure0 rfl (fun _ _ => ?_); go_simp; try go_bits) | (refine wpLexS_read rfl (fun _ _ => ?_); go_simp; try go_bits) | (refine wpLexS_loud rfl (fun KL hKL => ?_))))
  go_wp2_with fail
  go_ret
  exact ⟨by simp, HB⟩
theorem walk_DrawsAgain (key : List UInt8) (n : UInt64) (a b c : List UInt8) (w : World) (he : ShaEnv w) (hl : key.length = 32) :
    Calls Tryd.prog 16 #[.agg (u8s key), .int .u64 (n64 n), .string ⟨a.toArray⟩, .string ⟨b.toArray⟩, .string ⟨c.toArray⟩] w (TrueRes' w) := by
  by_cases h : n.toNat ≤ 1152921504606846976 ∧ a.length ≤ 50 ∧ b.length ≤ 50 ∧ c.length ≤ 50
  · exact drawsagain_any key hl n h.1 a b c w he h.2.1 h.2.2.1 h.2.2.2
  · obtain ⟨S1, hS1⟩ : ∃ S : ByteArray, S = ⟨a.toArray⟩ := ⟨_, rfl⟩
    obtain ⟨S2, hS2⟩ : ∃ S : ByteArray, S = ⟨b.toArray⟩ := ⟨_, rfl⟩
    obtain ⟨S3, hS3⟩ : ∃ S : ByteArray, S = ⟨c.toArray⟩ := ⟨_, rfl⟩
    have hz1 : S1.size = a.length := by rw [hS1]; simp [ByteArray.size]
    have hz2 : S2.size = b.length := by rw [hS2]; simp [ByteArray.size]
    have hz3 : S3.size = c.length := by rw [hS3]; simp [ByteArray.size]
    rw [← hS1, ← hS2, ← hS3]
    obtain ⟨l1, hl1'⟩ : ∃ l, a.length = l := ⟨_, rfl⟩
    obtain ⟨l2, hl2'⟩ : ∃ l, b.length = l := ⟨_, rfl⟩
    obtain ⟨l3, hl3'⟩ : ∃ l, c.length = l := ⟨_, rfl⟩
    rw [hl1'] at hz1 h
    rw [hl2'] at hz2 h
    rw [hl3'] at hz3 h
    have hd : (decide ((1152921504606846976 : Int) < n64 n) || decide ((50 : Int) < l1) || decide ((50 : Int) < l2) || decide ((50 : Int) < l3)) = true := by rw [n64_def]; simp; omega
    clear hS1 hS2 hS3 hl1' hl2' hl3' h
    have hq0 : Below w.heap.size w (w.alloc (.cells (u8s key) 33)) := (by repeat (first | with_reducible exact Below.refl _ _ | with_reducible assumption | refine Below.drew ?_ | refine below_drewN ?_ | refine Below.alloc ?_ (by first | omega | (simp; done) | (simp; omega)) _ | refine below_setRow ?_ (by omega) _ | refine Below.setCell ?_ (by first | omega | (simp; done) | (simp; omega)) _))
    go_enter Tryd.func16, Tryd.ntmps16
    go_wp2_with (go_at_call 49; refine (awake13_any _ (he.step hq0)).mono ?_; rintro e w1 ⟨rfl, hb1⟩)
    all_goals (go_ret; exact ⟨rfl, hq0.trans (Below.mono (by assumption) hq0.size)⟩)
end Go.Proofs.YtopmdbmnlflpgaaDoor
