/- Layer 2, the document's: words turned, the compression. -/
import Derived.Test.YtopmdbmnlflpgaaDoorShaB
namespace Go.Proofs.YtopmdbmnlflpgaaDoor
open Go.RowKit
theorem rotr_turn (x : UInt32) (k : Nat) (h : k < 32) : (x >>> UInt32.ofNat k) ||| (x <<< UInt32.ofNat (32 - k)) = rotr x k := by
  rw [rotr_def]; unfold rotl
  rw [show 32 - (32 - k) = k by omega]
  exact UInt32.or_comm _ _
set_option maxRecDepth 100000 in
theorem turn_at (x : UInt32) (k : Nat) (i : Int) (hi : i = k) (h0 : 0 < k) (h1 : k < 32) (w : World) :
    Calls Tryd.prog 72 #[.int .u32 (n32 x), .int .i64 i] w fun e w' => e = .returned (.int .u32 (n32 (rotr x k))) ∧ ∃ n, w' = w.drewN n := by
  subst hi
  have hk0 : (0 : Int) < (k : Int) := by omega
  have hk1 : (k : Int) < 32 := by omega
  have hl := shl32_fold x (32 - k) (by omega)
  have hr := shr32_fold x k (by omega)
  have ht := rotr_turn x k h1
  go_enter Tryd.func72, Tryd.ntmps72
  go_wp2_with (first | (refine wp_region_lex [] (by kernel_rfl) (by decide +kernel) ?_) | (refine wpLex_nil ?_) | (refine wpLex_pure rfl (fun _ _ => ?_); go_simp; try go_bits) | (refine wpLex_read rfl (fun _ _ => ?_); go_simp; try go_bits) | (refine wpLex_loud rfl (fun _ _ => ?_)))
  go_ret
  exact ⟨by rw [← ht]; rfl, _, rfl⟩
/-- a byte moved up, as a word -/
@[irreducible] def shw (b : UInt8) (k : Nat) : UInt32 := UInt32.ofNat (b.toNat * 2 ^ k)
theorem shw24 (b : UInt8) : n8 b * (16777216 : Int) % (4294967296 : Int) = n32 (shw b 24) := by
  unfold shw; rw [n8_def, n32_def, UInt32.toNat_ofNat']; have := b.toNat_lt; omega
theorem shw16 (b : UInt8) : n8 b * (65536 : Int) % (4294967296 : Int) = n32 (shw b 16) := by
  unfold shw; rw [n8_def, n32_def, UInt32.toNat_ofNat']; have := b.toNat_lt; omega
theorem shw8 (b : UInt8) : n8 b * (256 : Int) % (4294967296 : Int) = n32 (shw b 8) := by
  unfold shw; rw [n8_def, n32_def, UInt32.toNat_ofNat']; have := b.toNat_lt; omega
theorem shw24' (b : UInt8) : IntKind.u32.wrap (n8 b * (16777216 : Int)) = n32 (shw b 24) := by rw [wrap_u32]; exact shw24 b
theorem shw16' (b : UInt8) : IntKind.u32.wrap (n8 b * (65536 : Int)) = n32 (shw b 16) := by rw [wrap_u32]; exact shw16 b
theorem shw8' (b : UInt8) : IntKind.u32.wrap (n8 b * (256 : Int)) = n32 (shw b 8) := by rw [wrap_u32]; exact shw8 b
theorem wrap32_n8 (b : UInt8) : IntKind.u32.wrap (n8 b) = n8 b := by
  have := n8_lt b; have := n8_ge b; rw [wrap_u32]; omega
theorem mod32_n8 (b : UInt8) : n8 b % (4294967296 : Int) = n8 b := by
  have := n8_lt b; have := n8_ge b; omega
theorem shw0 (b : UInt8) : n32 (shw b 0) = n8 b := by
  unfold shw; rw [n8_def, n32_def, UInt32.toNat_ofNat']; have := b.toNat_lt; omega
theorem or_shw0 (x : UInt32) (b : UInt8) : bits .or .u32 (n32 x) (n8 b) = n32 (x ||| shw b 0) := by rw [← shw0, u32_or]
theorem or_add (a b i : Nat) (h : b < 2 ^ i) : a * 2 ^ i ||| b = a * 2 ^ i + b := by
  have := Nat.shiftLeft_add_eq_or_of_lt h a
  rw [Nat.shiftLeft_eq] at this
  exact this.symm
theorem shw_val (b : UInt8) (k : Nat) (h : k ≤ 24) : (shw b k).toNat = b.toNat * 2 ^ k := by
  have hb := b.toNat_lt
  unfold shw
  rw [UInt32.toNat_ofNat']
  have : 2 ^ k ≤ 2 ^ 24 := Nat.pow_le_pow_right (by omega) h
  have : b.toNat * 2 ^ k ≤ 255 * 2 ^ 24 := Nat.mul_le_mul (by omega) this
  exact Nat.mod_eq_of_lt (by omega)
theorem be_or (l : List UInt8) (o : Nat) : shw (at8 l o) 24 ||| shw (at8 l (o + 1)) 16 ||| shw (at8 l (o + 2)) 8 ||| shw (at8 l (o + 3)) 0 = beAt l o := by
  have h0 := (at8 l o).toNat_lt
  have h1 := (at8 l (o + 1)).toNat_lt
  have h2 := (at8 l (o + 2)).toNat_lt
  have h3 := (at8 l (o + 3)).toNat_lt
  apply UInt32.toNat_inj.1
  unfold beAt
  rw [UInt32.toNat_or, UInt32.toNat_or, UInt32.toNat_or, shw_val _ _ (by omega), shw_val _ _ (by omega), shw_val _ _ (by omega), shw_val _ _ (by omega), UInt32.toNat_ofNat']
  generalize (at8 l o).toNat = a at *
  generalize (at8 l (o + 1)).toNat = b at *
  generalize (at8 l (o + 2)).toNat = c at *
  generalize (at8 l (o + 3)).toNat = d at *
  have e1 : a * 2 ^ 24 ||| b * 2 ^ 16 = (a * 256 + b) * 2 ^ 16 := by rw [or_add a (b * 2 ^ 16) 24 (by omega)]; omega
  have e2 : (a * 256 + b) * 2 ^ 16 ||| c * 2 ^ 8 = ((a * 256 + b) * 256 + c) * 2 ^ 8 := by rw [or_add (a * 256 + b) (c * 2 ^ 8) 16 (by omega)]; omega
  have e3 : ((a * 256 + b) * 256 + c) * 2 ^ 8 ||| d * 2 ^ 0 = ((a * 256 + b) * 256 + c) * 256 + d := by rw [or_add ((a * 256 + b) * 256 + c) (d * 2 ^ 0) 8 (by omega)]; omega
  rw [e1, e2, e3]
  omega
theorem sub_compl (x : UInt32) : (4294967295 : Int) - n32 x = n32 (~~~x) := by
  have := x.toNat_lt
  rw [n32_def, n32_def, UInt32.toNat_not]
  simp [UInt32.size]; omega
theorem sub_compl' (x : UInt32) : IntKind.u32.wrap ((4294967295 : Int) - n32 x) = n32 (~~~x) := by
  rw [sub_compl, wrap_u32, u32_mod]
theorem build64k (w : World) : (buildK 114 #[(0, .int .u32 1116352408), (1, .int .u32 1899447441), (2, .int .u32 3049323471), (3, .int .u32 3921009573), (4, .int .u32 961987163), (5, .int .u32 1508970993), (6, .int .u32 2453635748), (7, .int .u32 2870763221), (8, .int .u32 3624381080), (9, .int .u32 310598401), (10, .int .u32 607225278), (11, .int .u32 1426881987), (12, .int .u32 1925078388), (13, .int .u32 2162078206), (14, .int .u32 2614888103), (15, .int .u32 3248222580), (16, .int .u32 3835390401), (17, .int .u32 4022224774), (18, .int .u32 264347078), (19, .int .u32 604807628), (20, .int .u32 770255983), (21, .int .u32 1249150122), (22, .int .u32 1555081692), (23, .int .u32 1996064986), (24, .int .u32 2554220882), (25, .int .u32 2821834349), (26, .int .u32 2952996808), (27, .int .u32 3210313671), (28, .int .u32 3336571891), (29, .int .u32 3584528711), (30, .int .u32 113926993), (31, .int .u32 338241895), (32, .int .u32 666307205), (33, .int .u32 773529912), (34, .int .u32 1294757372), (35, .int .u32 1396182291), (36, .int .u32 1695183700), (37, .int .u32 1986661051), (38, .int .u32 2177026350), (39, .int .u32 2456956037), (40, .int .u32 2730485921), (41, .int .u32 2820302411), (42, .int .u32 3259730800), (43, .int .u32 3345764771), (44, .int .u32 3516065817), (45, .int .u32 3600352804), (46, .int .u32 4094571909), (47, .int .u32 275423344), (48, .int .u32 430227734), (49, .int .u32 506948616), (50, .int .u32 659060556), (51, .int .u32 883997877), (52, .int .u32 958139571), (53, .int .u32 1322822218), (54, .int .u32 1537002063), (55, .int .u32 1747873779), (56, .int .u32 1955562222), (57, .int .u32 2024104815), (58, .int .u32 2227730452), (59, .int .u32 2361852424), (60, .int .u32 2428436474), (61, .int .u32 2756734187), (62, .int .u32 3204031479), (63, .int .u32 3329325298)]).run Tryd.prog w = .ok (.value (.agg (u32s roundsL))) w :=
  run_buildK (by rw [u32s_def]; unfold roundsL; change _ = _; kernel_rfl) w
theorem set_other (l : List UInt32) (k c : Nat) (v : UInt32) (h : k ≠ c) : at32 (l.set k v) c = at32 l c := by
  simp only [at32_def, List.getD, List.getElem?_set]
  rw [if_neg h]
theorem m32 (x : UInt32) : n32 x % (4294967296 : Int) = n32 x := by have := n32_lt x; have := n32_ge x; omega
theorem a32 (x y : UInt32) : (n32 x + n32 y) % (4294967296 : Int) = n32 (x + y) := by rw [n32_def, n32_def, n32_def, UInt32.toNat_add]; omega
theorem td8 (x : UInt32) : (n32 x).tdiv (8 : Int) = n32 (x >>> 3) := by rw [Int.tdiv_eq_ediv_of_nonneg (n32_ge x)]; exact shr3 x
theorem td1024 (x : UInt32) : (n32 x).tdiv (1024 : Int) = n32 (x >>> 10) := by rw [Int.tdiv_eq_ediv_of_nonneg (n32_ge x)]; exact shr10 x
theorem step_at (s : List UInt32) (k w : UInt32) : at32 (shaStep s k w) 0 = t1Of (at32 s 4) (at32 s 5) (at32 s 6) (at32 s 7) k w + t2Of (at32 s 0) (at32 s 1) (at32 s 2) ∧ at32 (shaStep s k w) 1 = at32 s 0 ∧ at32 (shaStep s k w) 2 = at32 s 1 ∧ at32 (shaStep s k w) 3 = at32 s 2 ∧
    at32 (shaStep s k w) 4 = at32 s 3 + t1Of (at32 s 4) (at32 s 5) (at32 s 6) (at32 s 7) k w ∧ at32 (shaStep s k w) 5 = at32 s 4 ∧ at32 (shaStep s k w) 6 = at32 s 5 ∧ at32 (shaStep s k w) 7 = at32 s 6 := by
  rw [← step_fold]
  simp [at32_def]
attribute [local go_sem] m32 a32 td8 td1024 shw24 shw16 shw8 shw24' shw16' shw8' wrap32_n8 mod32_n8 or_shw0 sub_compl sub_compl' build64k shr3 shr10 sg0_fold sg1_fold build8 t1_fold t2_fold
theorem addK_at (st s : List UInt32) (i : Nat) : ∀ k, k ≤ s.length → at32 (addK st s k) i = if i < k then at32 s i + at32 st i else at32 s i
  | 0, _ => by simp [addK]
  | k + 1, h => by
    have ih := addK_at st s i k (by omega)
    have hl := addK_length st s k
    rw [addK]
    by_cases hi : k = i
    · subst hi
      rw [if_neg (by omega)] at ih
      rw [if_pos (by omega)]
      have e : ∀ v, at32 ((addK st s k).set k v) k = v := fun v => by
        have h' : k < (addK st s k).length := by omega
        simp [at32_def, h']
      rw [e, ih]
    · rw [set_other _ _ _ _ hi, ih]
      by_cases h2 : i < k
      · rw [if_pos h2, if_pos (by omega)]
      · rw [if_neg h2, if_neg (by omega)]
theorem sum8 (st s : List UInt32) (hs : s.length = 8) : [at32 st 0 + at32 s 0, at32 st 1 + at32 s 1, at32 st 2 + at32 s 2, at32 st 3 + at32 s 3, at32 st 4 + at32 s 4, at32 st 5 + at32 s 5, at32 st 6 + at32 s 6, at32 st 7 + at32 s 7] = addK st s 8 := by
  refine ext32 (by rw [addK_length, hs]; rfl) fun x hx => ?_
  have hx8 : x < 8 := by simpa using hx
  rw [addK_at st s x 8 (by omega), if_pos hx8]
  have : x = 0 ∨ x = 1 ∨ x = 2 ∨ x = 3 ∨ x = 4 ∨ x = 5 ∨ x = 6 ∨ x = 7 := by omega
  rcases this with rfl | rfl | rfl | rfl | rfl | rfl | rfl | rfl <;> simp [at32_def, UInt32.add_comm]
set_option maxRecDepth 100000 in
set_option maxHeartbeats 2000000 in
theorem refBlock_any (st : List UInt32) (bl : List UInt8) (hst : st.length = 8) (hbl : bl.length = 64) (w : World) :
    Calls Tryd.prog 22 #[.agg (u32s st), .agg (u8s bl)] w (WRes w (shaBlock st bl)) := by
  obtain ⟨W, hW⟩ : ∃ W : Nat → List UInt32, W = schedK bl := ⟨_, rfl⟩
  have W0 : Hid (z32 64 = W 0) := Lib.hid (by rw [hW, sched_zero])
  have WL : Hid (∀ k, (W k).length = 64) := Lib.hid (by rw [hW]; exact schedK_length bl)
  have WA : Hid (∀ k, k < 16 → (W k).set k (beAt bl (4 * k)) = W (k + 1)) := Lib.hid (by rw [hW]; exact sched_low bl)
  have WB : Hid (∀ k, ¬ k < 16 → (W k).set k (nextW (W k) k) = W (k + 1)) := Lib.hid (by rw [hW]; exact sched_high bl)
  obtain ⟨S, hS⟩ : ∃ S : Nat → List UInt32, S = stepsK st bl := ⟨_, rfl⟩
  have S0 : Hid (st = S 0) := Lib.hid (by rw [hS]; rfl)
  have SL : Hid (∀ k, (S k).length = 8) := Lib.hid (by rw [hS]; exact stepsK_length st bl hst)
  have SS : Hid (∀ k, shaStep (S k) (at32 roundsL k) (at32 (W 64) k) = S (k + 1)) := Lib.hid (by rw [hS, hW]; intro k; rfl)
  obtain ⟨R, hR⟩ : ∃ R, R = shaBlock st bl := ⟨_, rfl⟩
  have HR : Hid ([at32 st 0 + at32 (S 64) 0, at32 st 1 + at32 (S 64) 1, at32 st 2 + at32 (S 64) 2, at32 st 3 + at32 (S 64) 3, at32 st 4 + at32 (S 64) 4, at32 st 5 + at32 (S 64) 5, at32 st 6 + at32 (S 64) 6, at32 st 7 + at32 (S 64) 7] = R) := Lib.hid (by
    rw [hR, hS]
    unfold shaBlock
    exact sum8 st _ (stepsK_length st bl hst 64))
  rw [← hR]
  have hrl := roundsL_length
  obtain ⟨RL, hRL⟩ : ∃ RL, RL = roundsL := ⟨_, rfl⟩
  have hbk := build64k
  rw [← hRL] at hrl SS hbk
  clear hRL hR hS hW
  go_enter Tryd.func22, Tryd.ntmps22
  go_wp2_with fail
  go_loopw [7] (fun i wr => ∃ k n : Nat, k ≤ 64 ∧ i = .int .i64 k ∧ wr = ((((((w.alloc (.cells (u32s st) 23)).alloc (.cells (u8s bl) 24)).alloc (.cells (u32s (z32 8)) 23)).alloc (.cells (u32s RL) 114)).alloc (.cells (u32s (W k)) 114)).drewN n)) (fun i _ => 64 - (intOf i).toNat)
  case atStart => exact ⟨0, 0, by omega, rfl, by rw [← W0.out]; rfl⟩
  case round =>
    obtain ⟨k, n, hk, rfl, rfl⟩ := hrel
    have hwl := WL.out k
    by_cases hlt : k < 64
    · have hk0 : (0 : Int) ≤ (k : Int) := by omega
      have hk1 : (k : Int) < 64 := by omega
      by_cases h16 : k < 16
      · have h16' : (k : Int) < 16 := by omega
        have hfs := WA.out k h16
        obtain ⟨sc, hsc⟩ : ∃ sc, sc = W k := ⟨_, rfl⟩
        rw [← hsc] at hfs hwl ⊢
        obtain ⟨x, hx⟩ : ∃ x : Nat, (4 : Int) * k = x := ⟨4 * k, by omega⟩
        have hbe := be_or bl x
        rw [show 4 * k = x by omega] at hfs
        have HF := Lib.hid hfs
        have HE := Lib.hid hbe
        clear hfs hsc hbe
        obtain ⟨x1, hx1⟩ : ∃ x1 : Nat, (x : Int) + 1 = x1 := ⟨x + 1, by omega⟩
        obtain ⟨x2, hx2⟩ : ∃ x2 : Nat, (x : Int) + 2 = x2 := ⟨x + 2, by omega⟩
        obtain ⟨x3, hx3⟩ : ∃ x3 : Nat, (x : Int) + 3 = x3 := ⟨x + 3, by omega⟩
        have a0 : (0 : Int) ≤ x := by omega
        have a1 : (0 : Int) ≤ x1 := by omega
        have a2 : (0 : Int) ≤ x2 := by omega
        have a3 : (0 : Int) ≤ x3 := by omega
        have b0 : (x : Int) < 64 := by omega
        have b1 : (x1 : Int) < 64 := by omega
        have b2 : (x2 : Int) < 64 := by omega
        have b3 : (x3 : Int) < 64 := by omega
        have d0 : x < 64 := by omega
        have d1 : x1 < 64 := by omega
        have d2 : x2 < 64 := by omega
        have d3 : x3 < 64 := by omega
        have e1 : x + 1 = x1 := by omega
        have e2 : x + 2 = x2 := by omega
        have e3 : x + 3 = x3 := by omega
        rw [e1, e2, e3] at HE
        clear e1 e2 e3
        go_wp2_with (first | (refine wp_region_lex [] (by kernel_rfl) (by decide +kernel) ?_) | (refine wpLex_nil ?_) | (refine wpLex_pure rfl (fun _ _ => ?_); go_simp; try go_bits) | (refine wpLex_read rfl (fun _ _ => ?_); go_simp; try go_bits) | (refine wpLex_loud rfl (fun _ _ => ?_)))
        refine ⟨⟨k + 1, n + 1, by omega, by go_num, ?_⟩, by simp [intOf]; omega⟩
        rw [← HF.out, ← HE.out]
      · have h16' : ¬ ((k : Int) < 16) := by omega
        have hfs := WB.out k h16
        obtain ⟨sc, hsc⟩ : ∃ sc, sc = W k := ⟨_, rfl⟩
        rw [← hsc] at hfs hwl ⊢
        have HF := Lib.hid hfs
        clear hfs hsc
        obtain ⟨a, ha⟩ : ∃ a : Nat, (k : Int) - 15 = a := ⟨k - 15, by omega⟩
        obtain ⟨b, hb'⟩ : ∃ a : Nat, (k : Int) - 2 = a := ⟨k - 2, by omega⟩
        obtain ⟨c, hc⟩ : ∃ a : Nat, (k : Int) - 16 = a := ⟨k - 16, by omega⟩
        obtain ⟨d, hd⟩ : ∃ a : Nat, (k : Int) - 7 = a := ⟨k - 7, by omega⟩
        have hnw : nextW sc k = at32 sc c + sg0 (at32 sc a) + at32 sc d + sg1 (at32 sc b) := by
          unfold nextW
          rw [show k - 16 = c by omega, show k - 15 = a by omega, show k - 7 = d by omega, show k - 2 = b by omega]
        have HW := Lib.hid hnw
        clear hnw
        have hkc : k ≠ c := by omega
        have hkd : k ≠ d := by omega
        have hsc1 : ∀ v, at32 (sc.set k v) c = at32 sc c := fun v => set_other sc k c v hkc
        have hsc2 : ∀ v, at32 (sc.set k v) d = at32 sc d := fun v => set_other sc k d v hkd
        have ha0 : (0 : Int) ≤ a := by omega
        have hb0 : (0 : Int) ≤ b := by omega
        have hc0 : (0 : Int) ≤ c := by omega
        have hd0 : (0 : Int) ≤ d := by omega
        have ha1 : (a : Int) < 64 := by omega
        have hb1 : (b : Int) < 64 := by omega
        have hc1 : (c : Int) < 64 := by omega
        have hd1 : (d : Int) < 64 := by omega
        have ha2 : a < 64 := by omega
        have hb2 : b < 64 := by omega
        have hc2 : c < 64 := by omega
        have hd2 : d < 64 := by omega
        clear hkc hkd
        go_wp2_with (first | (refine wp_region_lex [] (by kernel_rfl) (by decide +kernel) ?_) | (refine wpLex_nil ?_) | (refine wpLex_pure rfl (fun _ _ => ?_); go_simp; try go_bits) | (refine wpLex_read rfl (fun _ _ => ?_); go_simp; try go_bits) | (refine wpLex_loud rfl (fun _ _ => ?_)))
        refine wp_region_lexS [] [4, 17] (Two ⟨w.heap.size + 1 + 1 + 1 + 1, c, none⟩ ⟨w.heap.size + 1 + 1 + 1 + 1, d, none⟩ (.int .u32 (n32 (at32 sc c))) (.int .u32 (n32 (at32 sc d)))) (by kernel_rfl) (by decide +kernel) ⟨by go_simp, by go_simp⟩ (fun hS => ?_)
        (go_wp2_with (first | (refine wpLexS_nil ?_) | (refine wpLexS_pure rfl (fun _ _ => ?_); go_simp; refine ⟨_, fun w9 hw9 => (by have s1 := hw9.1; have s2 := hw9.2; go_simp; rfl), ?_⟩) | (refine wpLexS_pure0 rfl (fun _ _ => ?_); go_simp; try go_bits) | (refine wpLexS_read rfl (fun _ _ => ?_); go_simp; try go_bits) | (refine wpLexS_loud rfl (fun KL hKL => ?_))))
        refine (turn_at _ 7 7 rfl (by omega) (by omega) _).mono ?_
        rintro e w2 ⟨rfl, n1, rfl⟩
        (go_wp2_with (first | (refine wpLexS_nil ?_) | (refine wpLexS_pure rfl (fun _ _ => ?_); go_simp; refine ⟨_, fun w9 hw9 => (by have s1 := hw9.1; have s2 := hw9.2; go_simp; rfl), ?_⟩) | (refine wpLexS_pure0 rfl (fun _ _ => ?_); go_simp; try go_bits) | (refine wpLexS_read rfl (fun _ _ => ?_); go_simp; try go_bits) | (refine wpLexS_loud rfl (fun KL hKL => ?_))))
        refine hKL _ _ ⟨by go_simp, by go_simp⟩ (fun hS => ?_)
        (go_wp2_with (first | (refine wpLexS_nil ?_) | (refine wpLexS_pure rfl (fun _ _ => ?_); go_simp; refine ⟨_, fun w9 hw9 => (by have s1 := hw9.1; have s2 := hw9.2; go_simp; rfl), ?_⟩) | (refine wpLexS_pure0 rfl (fun _ _ => ?_); go_simp; try go_bits) | (refine wpLexS_read rfl (fun _ _ => ?_); go_simp; try go_bits) | (refine wpLexS_loud rfl (fun KL hKL => ?_))))
        refine (turn_at _ 18 18 rfl (by omega) (by omega) _).mono ?_
        rintro e w2 ⟨rfl, n2, rfl⟩
        (go_wp2_with (first | (refine wpLexS_nil ?_) | (refine wpLexS_pure rfl (fun _ _ => ?_); go_simp; refine ⟨_, fun w9 hw9 => (by have s1 := hw9.1; have s2 := hw9.2; go_simp; rfl), ?_⟩) | (refine wpLexS_pure0 rfl (fun _ _ => ?_); go_simp; try go_bits) | (refine wpLexS_read rfl (fun _ _ => ?_); go_simp; try go_bits) | (refine wpLexS_loud rfl (fun KL hKL => ?_))))
        refine hKL _ _ ⟨by go_simp, by go_simp⟩ (fun hS => ?_)
        (go_wp2_with (first | (refine wpLexS_nil ?_) | (refine wpLexS_pure rfl (fun _ _ => ?_); go_simp; refine ⟨_, fun w9 hw9 => (by have s1 := hw9.1; have s2 := hw9.2; go_simp; rfl), ?_⟩) | (refine wpLexS_pure0 rfl (fun _ _ => ?_); go_simp; try go_bits) | (refine wpLexS_read rfl (fun _ _ => ?_); go_simp; try go_bits) | (refine wpLexS_loud rfl (fun KL hKL => ?_))))
        refine (turn_at _ 17 17 rfl (by omega) (by omega) _).mono ?_
        rintro e w2 ⟨rfl, n3, rfl⟩
        (go_wp2_with (first | (refine wpLexS_nil ?_) | (refine wpLexS_pure rfl (fun _ _ => ?_); go_simp; refine ⟨_, fun w9 hw9 => (by have s1 := hw9.1; have s2 := hw9.2; go_simp; rfl), ?_⟩) | (refine wpLexS_pure0 rfl (fun _ _ => ?_); go_simp; try go_bits) | (refine wpLexS_read rfl (fun _ _ => ?_); go_simp; try go_bits) | (refine wpLexS_loud rfl (fun KL hKL => ?_))))
        refine hKL _ _ ⟨by go_simp, by go_simp⟩ (fun hS => ?_)
        (go_wp2_with (first | (refine wpLexS_nil ?_) | (refine wpLexS_pure rfl (fun _ _ => ?_); go_simp; refine ⟨_, fun w9 hw9 => (by have s1 := hw9.1; have s2 := hw9.2; go_simp; rfl), ?_⟩) | (refine wpLexS_pure0 rfl (fun _ _ => ?_); go_simp; try go_bits) | (refine wpLexS_read rfl (fun _ _ => ?_); go_simp; try go_bits) | (refine wpLexS_loud rfl (fun KL hKL => ?_))))
        refine (turn_at _ 19 19 rfl (by omega) (by omega) _).mono ?_
        rintro e w2 ⟨rfl, n4, rfl⟩
        (go_wp2_with (first | (refine wpLexS_nil ?_) | (refine wpLexS_pure rfl (fun _ _ => ?_); go_simp; refine ⟨_, fun w9 hw9 => (by have s1 := hw9.1; have s2 := hw9.2; go_simp; rfl), ?_⟩) | (refine wpLexS_pure0 rfl (fun _ _ => ?_); go_simp; try go_bits) | (refine wpLexS_read rfl (fun _ _ => ?_); go_simp; try go_bits) | (refine wpLexS_loud rfl (fun KL hKL => ?_))))
        refine hKL _ _ ⟨by go_simp, by go_simp⟩ (fun hS => ?_)
        (go_wp2_with (first | (refine wpLexS_nil ?_) | (refine wpLexS_pure rfl (fun _ _ => ?_); go_simp; refine ⟨_, fun w9 hw9 => (by have s1 := hw9.1; have s2 := hw9.2; go_simp; rfl), ?_⟩) | (refine wpLexS_pure0 rfl (fun _ _ => ?_); go_simp; try go_bits) | (refine wpLexS_read rfl (fun _ _ => ?_); go_simp; try go_bits) | (refine wpLexS_loud rfl (fun KL hKL => ?_))))
        refine hKL _ _ ⟨by go_simp, by go_simp⟩ (fun hS => ?_)
        (go_wp2_with (first | (refine wpLexS_nil ?_) | (refine wpLexS_pure rfl (fun _ _ => ?_); go_simp; refine ⟨_, fun w9 hw9 => (by have s1 := hw9.1; have s2 := hw9.2; go_simp; rfl), ?_⟩) | (refine wpLexS_pure0 rfl (fun _ _ => ?_); go_simp; try go_bits) | (refine wpLexS_read rfl (fun _ _ => ?_); go_simp; try go_bits) | (refine wpLexS_loud rfl (fun KL hKL => ?_))))
        refine ⟨⟨k + 1, n + 1 + n1 + n2 + n3 + n4, by omega, by go_num, ?_⟩, by simp [intOf]; omega⟩
        rw [← HF.out, HW.out]
    · have e64 : k = 64 := by omega
      subst e64
      rw [show ((64 : Nat) : Int) = 64 from rfl]
      obtain ⟨W64, hW64⟩ : ∃ W64, W64 = W 64 := ⟨_, rfl⟩
      rw [← hW64] at hwl ⊢
      rw [← hW64] at SS
      clear hW64
      go_wp2_with fail
      go_loopw [10, 11, 12, 13, 14, 15, 16, 17, 18] (fun va vb vc vd ve vf vg vh i wr => ∃ k n : Nat, k ≤ 64 ∧ i = .int .i64 k ∧ va = .int .u32 (n32 (at32 (S k) 0)) ∧ vb = .int .u32 (n32 (at32 (S k) 1)) ∧ vc = .int .u32 (n32 (at32 (S k) 2)) ∧ vd = .int .u32 (n32 (at32 (S k) 3)) ∧ ve = .int .u32 (n32 (at32 (S k) 4)) ∧ vf = .int .u32 (n32 (at32 (S k) 5)) ∧ vg = .int .u32 (n32 (at32 (S k) 6)) ∧ vh = .int .u32 (n32 (at32 (S k) 7)) ∧ wr = ((((((w.alloc (.cells (u32s st) 23)).alloc (.cells (u8s bl) 24)).alloc (.cells (u32s (z32 8)) 23)).alloc (.cells (u32s RL) 114)).alloc (.cells (u32s W64) 114)).drewN n)) (fun _ _ _ _ _ _ _ _ i _ => 64 - (intOf i).toNat)
      case atStart => exact ⟨0, n, by omega, rfl, by rw [← S0.out], by rw [← S0.out], by rw [← S0.out], by rw [← S0.out], by rw [← S0.out], by rw [← S0.out], by rw [← S0.out], by rw [← S0.out], rfl⟩
      case round =>
        obtain ⟨k, n, hk, rfl, rfl, rfl, rfl, rfl, rfl, rfl, rfl, rfl, rfl⟩ := hrel
        by_cases hlt : k < 64
        · have hk0 : (0 : Int) ≤ (k : Int) := by omega
          have hk1 : (k : Int) < 64 := by omega
          have hSS := Lib.hid (SS.out k)
          obtain ⟨sk, hsk⟩ : ∃ sk, sk = S k := ⟨_, rfl⟩
          rw [← hsk] at hSS ⊢
          clear hsk
          go_wp2_with fail
          refine wp_region_lexS [] [21, 25] (Two ⟨w.heap.size + 1 + 1 + 1, k, none⟩ ⟨w.heap.size + 1 + 1 + 1 + 1, k, none⟩ (.int .u32 (n32 (at32 RL k))) (.int .u32 (n32 (at32 W64 k)))) (by kernel_rfl) (by decide +kernel) ⟨by go_simp, by go_simp⟩ (fun hS => ?_)
          (go_wp2_with (first | (refine wpLexS_nil ?_) | (refine wpLexS_pure rfl (fun _ _ => ?_); go_simp; refine ⟨_, fun w9 hw9 => (by have s1 := hw9.1; have s2 := hw9.2; go_simp; rfl), ?_⟩) | (refine wpLexS_pure0 rfl (fun _ _ => ?_); go_simp; try go_bits) | (refine wpLexS_read rfl (fun _ _ => ?_); go_simp; try go_bits) | (refine wpLexS_loud rfl (fun KL hKL => ?_))))
          refine (turn_at _ 6 6 rfl (by omega) (by omega) _).mono ?_
          rintro e w2 ⟨rfl, n1, rfl⟩
          (go_wp2_with (first | (refine wpLexS_nil ?_) | (refine wpLexS_pure rfl (fun _ _ => ?_); go_simp; refine ⟨_, fun w9 hw9 => (by have s1 := hw9.1; have s2 := hw9.2; go_simp; rfl), ?_⟩) | (refine wpLexS_pure0 rfl (fun _ _ => ?_); go_simp; try go_bits) | (refine wpLexS_read rfl (fun _ _ => ?_); go_simp; try go_bits) | (refine wpLexS_loud rfl (fun KL hKL => ?_))))
          refine hKL _ _ ⟨by go_simp, by go_simp⟩ (fun hS => ?_)
          (go_wp2_with (first | (refine wpLexS_nil ?_) | (refine wpLexS_pure rfl (fun _ _ => ?_); go_simp; refine ⟨_, fun w9 hw9 => (by have s1 := hw9.1; have s2 := hw9.2; go_simp; rfl), ?_⟩) | (refine wpLexS_pure0 rfl (fun _ _ => ?_); go_simp; try go_bits) | (refine wpLexS_read rfl (fun _ _ => ?_); go_simp; try go_bits) | (refine wpLexS_loud rfl (fun KL hKL => ?_))))
          refine (turn_at _ 11 11 rfl (by omega) (by omega) _).mono ?_
          rintro e w2 ⟨rfl, n2, rfl⟩
          (go_wp2_with (first | (refine wpLexS_nil ?_) | (refine wpLexS_pure rfl (fun _ _ => ?_); go_simp; refine ⟨_, fun w9 hw9 => (by have s1 := hw9.1; have s2 := hw9.2; go_simp; rfl), ?_⟩) | (refine wpLexS_pure0 rfl (fun _ _ => ?_); go_simp; try go_bits) | (refine wpLexS_read rfl (fun _ _ => ?_); go_simp; try go_bits) | (refine wpLexS_loud rfl (fun KL hKL => ?_))))
          refine hKL _ _ ⟨by go_simp, by go_simp⟩ (fun hS => ?_)
          (go_wp2_with (first | (refine wpLexS_nil ?_) | (refine wpLexS_pure rfl (fun _ _ => ?_); go_simp; refine ⟨_, fun w9 hw9 => (by have s1 := hw9.1; have s2 := hw9.2; go_simp; rfl), ?_⟩) | (refine wpLexS_pure0 rfl (fun _ _ => ?_); go_simp; try go_bits) | (refine wpLexS_read rfl (fun _ _ => ?_); go_simp; try go_bits) | (refine wpLexS_loud rfl (fun KL hKL => ?_))))
          refine (turn_at _ 25 25 rfl (by omega) (by omega) _).mono ?_
          rintro e w2 ⟨rfl, n3, rfl⟩
          (go_wp2_with (first | (refine wpLexS_nil ?_) | (refine wpLexS_pure rfl (fun _ _ => ?_); go_simp; refine ⟨_, fun w9 hw9 => (by have s1 := hw9.1; have s2 := hw9.2; go_simp; rfl), ?_⟩) | (refine wpLexS_pure0 rfl (fun _ _ => ?_); go_simp; try go_bits) | (refine wpLexS_read rfl (fun _ _ => ?_); go_simp; try go_bits) | (refine wpLexS_loud rfl (fun KL hKL => ?_))))
          refine hKL _ _ ⟨by go_simp, by go_simp⟩ (fun hS => ?_)
          (go_wp2_with (first | (refine wpLexS_nil ?_) | (refine wpLexS_pure rfl (fun _ _ => ?_); go_simp; refine ⟨_, fun w9 hw9 => (by have s1 := hw9.1; have s2 := hw9.2; go_simp; rfl), ?_⟩) | (refine wpLexS_pure0 rfl (fun _ _ => ?_); go_simp; try go_bits) | (refine wpLexS_read rfl (fun _ _ => ?_); go_simp; try go_bits) | (refine wpLexS_loud rfl (fun KL hKL => ?_))))
          go_wp2_with (first | (refine wp_region_lex [] (by kernel_rfl) (by decide +kernel) ?_) | (refine wpLex_nil ?_) | (refine wpLex_pure rfl (fun _ _ => ?_); go_simp; try go_bits) | (refine wpLex_read rfl (fun _ _ => ?_); go_simp; try go_bits) | (refine wpLex_loud rfl (fun _ _ => ?_)))
          refine (turn_at _ 2 2 rfl (by omega) (by omega) _).mono ?_
          rintro e w2 ⟨rfl, n4, rfl⟩
          go_wp2_with (first | (refine wp_region_lex [] (by kernel_rfl) (by decide +kernel) ?_) | (refine wpLex_nil ?_) | (refine wpLex_pure rfl (fun _ _ => ?_); go_simp; try go_bits) | (refine wpLex_read rfl (fun _ _ => ?_); go_simp; try go_bits) | (refine wpLex_loud rfl (fun _ _ => ?_)))
          refine (turn_at _ 13 13 rfl (by omega) (by omega) _).mono ?_
          rintro e w2 ⟨rfl, n5, rfl⟩
          go_wp2_with (first | (refine wp_region_lex [] (by kernel_rfl) (by decide +kernel) ?_) | (refine wpLex_nil ?_) | (refine wpLex_pure rfl (fun _ _ => ?_); go_simp; try go_bits) | (refine wpLex_read rfl (fun _ _ => ?_); go_simp; try go_bits) | (refine wpLex_loud rfl (fun _ _ => ?_)))
          refine (turn_at _ 22 22 rfl (by omega) (by omega) _).mono ?_
          rintro e w2 ⟨rfl, n6, rfl⟩
          go_wp2_with (first | (refine wp_region_lex [] (by kernel_rfl) (by decide +kernel) ?_) | (refine wpLex_nil ?_) | (refine wpLex_pure rfl (fun _ _ => ?_); go_simp; try go_bits) | (refine wpLex_read rfl (fun _ _ => ?_); go_simp; try go_bits) | (refine wpLex_loud rfl (fun _ _ => ?_)))
          obtain ⟨p0, p1, p2, p3, p4, p5, p6, p7⟩ := step_at sk (at32 RL k) (at32 W64 k)
          rw [hSS.out] at p0 p1 p2 p3 p4 p5 p6 p7
          refine ⟨⟨k + 1, _, by omega, by go_num, by rw [p0]; simp only [m32, a32, u32_and, u32_xor, t1_fold], by rw [p1], by rw [p2], by rw [p3], by rw [p4]; simp only [m32, a32, u32_and, u32_xor, t1_fold], by rw [p5], by rw [p6], by rw [p7], rfl⟩, by simp [intOf]; omega⟩
        · have e64 : k = 64 := by omega
          subst e64
          have hr := HR.out
          obtain ⟨sk, hsk⟩ : ∃ sk, sk = S 64 := ⟨_, rfl⟩
          rw [← hsk] at hr ⊢
          clear hsk
          have HR := Lib.hid hr
          clear hr
          go_wp2_with fail
          refine bodyPost_retRow 4 _ (w.heap.size + 1 + 1) 8 rfl rfl (by omega) (by kernel_rfl) (by kernel_rfl) ?_ rfl ?_
          · go_simp
          · go_simp
            exact ⟨by rw [HR.out], (by repeat (first | with_reducible exact Below.refl _ _ | with_reducible assumption | refine Below.drew ?_ | refine below_drewN ?_ | refine Below.alloc ?_ (by first | omega | (simp; done) | (simp; omega)) _ | refine below_setRow ?_ (by omega) _ | refine Below.setCell ?_ (by first | omega | (simp; done) | (simp; omega)) _))⟩
end Go.Proofs.YtopmdbmnlflpgaaDoor
