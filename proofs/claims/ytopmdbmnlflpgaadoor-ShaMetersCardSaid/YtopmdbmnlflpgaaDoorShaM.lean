/- Layer 2: sum. -/
import Derived.Test.YtopmdbmnlflpgaaDoorShaS
namespace Go.Proofs.YtopmdbmnlflpgaaDoor
open Go.RowKit
theorem beL_at (s : List UInt32) (j y : Nat) (hj : j < s.length) (h1 : 4 * j ≤ y) (h2 : y < 4 * j + 4) : at8 (beL s) y = at8 (beB (at32 s j)) (y - 4 * j) := by
  induction s generalizing j y with
  | nil => simp at hj
  | cons x s ih =>
    have e : beL (x :: s) = beB x ++ beL s := by simp [beL]
    rw [e]
    cases j with
    | zero =>
      have hy : y < 4 := by omega
      have e0 : at32 (x :: s) 0 = x := by simp [at32_def]
      rw [e0, at8_def, at8_def]
      simp only [List.getD]
      rw [List.getElem?_append_left (by rw [beB_length]; omega)]
      simp
    | succ j =>
      have e0 : at32 (x :: s) (j + 1) = at32 s j := by simp [at32_def]
      rw [e0]
      have := ih j (y - 4) (by simpa using hj) (by omega) (by omega)
      rw [show y - 4 * (j + 1) = y - 4 - 4 * j by omega, ← this, at8_def, at8_def]
      simp only [List.getD]
      rw [List.getElem?_append_right (by rw [beB_length]; omega), beB_length]
theorem run_st {w : World} {g : Nat} {l : List UInt32} (h : rowOf w g = u32s l) (hl : l.length = 8) : (loadAgg 23 (.pointer (some ⟨g, 0, none⟩))).run Tryd.prog w = .ok (.value (.agg (u32s l))) w := by
  rw [stLoad w g (by rw [h, u32s_size, hl]), h]
theorem high4_bs (x : UInt32) (w : World) : Calls Tryd.prog 71 #[.int .u64 (n32 x), .int .i64 4] w (BsRes w (beB x)) := by
  rw [← wide_fold, beB_def]
  exact high_bs (wide x) 4 (by omega) (by omega) 4 rfl w
theorem at8_spl' (l : List UInt8) (o : Nat) (cs : List UInt8) (i : Nat) (h : o + cs.length ≤ l.length) : at8 (spl l o cs) i = if i < o then at8 l i else if i < o + cs.length then at8 cs (i - o) else at8 l i := by
  unfold spl
  simp only [at8_def, List.getD]
  have e1 : (l.take o).length = o := by simp; omega
  by_cases h1 : i < o
  · rw [if_pos h1, List.getElem?_append_left (by simp; omega), List.getElem?_append_left (by omega), List.getElem?_take]; simp [h1]
  · rw [if_neg h1]
    by_cases h2 : i < o + cs.length
    · rw [if_pos h2, List.getElem?_append_left (by simp; omega), List.getElem?_append_right (by omega), e1]
    · rw [if_neg h2, List.getElem?_append_right (by simp; omega), List.getElem?_drop]
      congr 2
      simp; omega
set_option maxRecDepth 100000 in
set_option maxHeartbeats 2000000 in
theorem sum_any (vb : Value) (b : List UInt8) (w : World) (hvb : Bs w vb b) (hm : b.length ≤ 17592186044416) (hrd : RowIs w 0 (u32s roundsL)) (hst : RowIs w 1 (u32s startS)) :
    Calls Tryd.prog 75 #[vb] w (KRes w (shaB b)) := by
  obtain ⟨F, hF⟩ : ∃ F, F = b ++ padB b.length := ⟨_, rfl⟩
  obtain ⟨L, hL⟩ : ∃ L, L = F.length := ⟨_, rfl⟩
  obtain ⟨K, hK⟩ : ∃ K, K = L / 64 := ⟨_, rfl⟩
  have hLK : L = 64 * K := by
    have := padB_whole b.length
    rw [hK, hL, hF, List.length_append]; omega
  have hLm : L ≤ 17592186044516 := by
    have := padB_length b.length
    have hz : padZ b.length < 64 := by unfold padZ; omega
    rw [hL, hF, List.length_append]; omega
  have hres : shaB b = beL (foldB F K) := by rw [shaB_def, ← hF, ← hL, ← hK]
  obtain ⟨S, hS⟩ : ∃ S : Nat → List UInt32, S = foldB F := ⟨_, rfl⟩
  have S0 : Hid (S 0 = startS) := Lib.hid (by rw [hS]; rfl)
  have SL : Hid (∀ k, (S k).length = 8) := Lib.hid (by rw [hS]; exact foldB_length F)
  have SS : Hid (∀ k, shaBlock (S k) ((F.drop (64 * k)).take 64) = S (k + 1)) := Lib.hid (by rw [hS]; intro k; rfl)
  rw [hres, ← hS]
  have hcat : [b, padB b.length].flatten = F := by rw [hF]; simp
  have hpd := fun w => pad_any b.length (by omega) w
  obtain ⟨pb, hpb⟩ : ∃ pb, pb = padB b.length := ⟨_, rfl⟩
  rw [← hpb] at hcat hpd
  have HPD := Lib.hid hpd
  have HC := Lib.hid hcat
  have HLF := Lib.hid hL
  have HLK := Lib.hid hLK
  have hssl := startS_length
  obtain ⟨s0, hs0⟩ : ∃ s0, s0 = startS := ⟨_, rfl⟩
  rw [← hs0] at hst hssl S0
  obtain ⟨rl, hrl⟩ : ∃ rl, rl = roundsL := ⟨_, rfl⟩
  have hblk : ∀ st bl (w : World), st.length = 8 → bl.length = 64 → RowIs w 0 (u32s rl) → Calls Tryd.prog 20 #[.agg (u32s st), .agg (u8s bl)] w (WRes w (shaBlock st bl)) := fun st bl w h1 h2 h3 => block_any st bl h1 h2 w (by rw [← hrl]; exact h3)
  rw [← hrl] at hrd
  have HBK := Lib.hid hblk
  clear hF hL hK hLK hres hS hcat hpd hpb hs0 hrl hblk
  have hvb0 := hvb
  obtain ⟨A, c, rfl, -, -, -⟩ := hvb
  obtain ⟨n, hn⟩ : ∃ n, n = b.length := ⟨_, rfl⟩
  rw [← hn] at HPD hvb0 hm ⊢
  clear hn
  have hgl1 := hrd.lt
  have hgl2 := hst.lt
  go_enter Tryd.func75, Tryd.ntmps75
  go_wp2_with fail
  have R2 : RowIs (w.alloc (.cells (u8s (zeros 32)) 33)) w.heap.size (u8s (zeros 32)) := RowIs.new _ _ _
  have HB : Below w.heap.size w (w.alloc (.cells (u8s (zeros 32)) 33)) := (by repeat (first | with_reducible exact Below.refl _ _ | with_reducible assumption | refine Below.drew ?_ | refine below_drewN ?_ | refine Below.alloc ?_ (by first | omega | (simp; done) | (simp; omega)) _ | refine below_setRow ?_ (by omega) _ | refine Below.setCell ?_ (by first | omega | (simp; done) | (simp; omega)) _))
  replace hvb0 := hvb0.step HB; replace hrd := hrd.step HB; replace hst := hst.step HB
  refine (HPD.out _).mono ?_
  rintro e w1 ⟨v1, rfl, hv1, hb1⟩
  replace hvb0 := hvb0.step hb1; replace hrd := hrd.step hb1; replace hst := hst.step hb1; replace R2 := R2.step hb1
  replace HB := HB.trans (hb1.mono HB.size)
  clear hb1
  have hv1' := hv1
  obtain ⟨A1, c1, rfl, -, -, -⟩ := hv1
  go_wp2_with fail
  refine (concat_bs _ [b, pb] (by rw [HC.out, ← HLF.out]; omega) _ (BsL.lit2 _ (by simp) hvb0 hv1')).mono ?_
  rintro e w2 ⟨v2, rfl, hv2, hb2⟩
  rw [HC.out] at hv2
  replace hb2 := Below.pred (w1 := w1) (by repeat (first | with_reducible exact Below.refl _ _ | with_reducible assumption | refine Below.drew ?_ | refine below_drewN ?_ | refine Below.alloc ?_ (by first | omega | (simp; done) | (simp; omega)) _ | refine below_setRow ?_ (by omega) _ | refine Below.setCell ?_ (by first | omega | (simp; done) | (simp; omega)) _)) hb2; replace hrd := hrd.step hb2; replace hst := hst.step hb2; replace R2 := R2.step hb2; replace HB := HB.trans (hb2.mono HB.size)
  clear hvb0 hv1'
  have h2h := hst.has
  have h2r := hst.row
  have hld := run_st h2h hssl
  go_wp2_with fail
  have R3 : RowIs (w2.alloc (.cells (u32s s0) 23)) w2.heap.size (u32s (S 0)) := by rw [S0.out]; exact RowIs.new _ _ _
  have HB3 : Below w2.heap.size w2 (w2.alloc (.cells (u32s s0) 23)) := (by repeat (first | with_reducible exact Below.refl _ _ | with_reducible assumption | refine Below.drew ?_ | refine below_drewN ?_ | refine Below.alloc ?_ (by first | omega | (simp; done) | (simp; omega)) _ | refine below_setRow ?_ (by omega) _ | refine Below.setCell ?_ (by first | omega | (simp; done) | (simp; omega)) _))
  have hv20 := hv2
  replace hrd := hrd.step HB3
  have hs20 := R2.lt
  replace R2 := R2.step HB3
  have hs2 := HB.size
  replace HB := HB.trans (HB3.mono HB.size)
  clear h2h h2r hld HB3 hst
  go_loopw [0] (fun v wr => ∃ k : Nat, k ≤ K ∧ (∃ A c, v = .slice A (L - 64 * k) c ∧ L - 64 * k ≤ c ∧ Rd8 wr w2.heap.size A (F.drop (64 * k))) ∧ RowIs wr w.heap.size (u8s (zeros 32)) ∧ RowIs wr w2.heap.size (u32s (S k)) ∧ RowIs wr 0 (u32s rl) ∧ Below w.heap.size w wr) (fun v _ => lenOf v)
  case atStart =>
    refine ⟨0, by omega, ?_, R2, R3, hrd, HB⟩
    obtain ⟨A, c, rfl, h1, -, h3⟩ := hv20
    exact ⟨A, c, by rw [← HLF.out]; simp, by rw [← HLF.out] at h1; simpa using h1, by simpa using h3.below (by exact (by repeat (first | with_reducible exact Below.refl _ _ | with_reducible assumption | refine Below.drew ?_ | refine below_drewN ?_ | refine Below.alloc ?_ (by first | omega | (simp; done) | (simp; omega)) _ | refine below_setRow ?_ (by omega) _ | refine Below.setCell ?_ (by first | omega | (simp; done) | (simp; omega)) _)))⟩
  case round =>
    obtain ⟨k, hk, ⟨A2, c2, rfl, hcc, hrr⟩, R2, R3, RG, HB⟩ := hrel
    by_cases hlt : k < K
    · obtain ⟨m, hm1⟩ : ∃ m, m = L - 64 * k := ⟨_, rfl⟩
      have hm64 : 64 ≤ m := by have := HLK.out; omega
      have hmL : m ≤ 17592186044516 := by omega
      have hnx : m - 64 = L - 64 * (k + 1) := by omega
      have hfl : (F.drop (64 * k)).length = L - 64 * k := by rw [List.length_drop, ← HLF.out]
      rw [← hm1] at hfl hcc ⊢
      clear hm1
      have hs3 : w2.heap.size ≤ wr.heap.size := by have := R3.lt; omega
      have hv : Bs wr (.slice A2 m c2) (F.drop (64 * k)) := Bs.of' hfl hcc (by omega) (hrr.more hs3)
      have hrs := hrr.sub c2 64 (by omega) (by omega)
      rw [List.drop_drop, show 64 * k + 64 = 64 * (k + 1) by omega] at hrs
      have HRS := Lib.hid hrs
      clear hrr hfl hrs
      have hvt := hv.take 64 hm64
      have hbl : ((F.drop (64 * k)).take 64).length = 64 := by have h := hv.rd.1; simp only [List.length_drop] at h; simp only [List.length_take, List.length_drop]; omega
      have hSS := SS.out k
      have hsl := SL.out k
      obtain ⟨sk, hsk⟩ : ∃ sk, sk = S k := ⟨_, rfl⟩
      rw [← hsk] at R3 hSS hsl
      clear hsk
      obtain ⟨bl, hbl'⟩ : ∃ bl, bl = (F.drop (64 * k)).take 64 := ⟨_, rfl⟩
      rw [← hbl'] at hbl hSS hvt
      clear hbl'
      have hrd8 := hvt.rd.2.2
      have hcap : m ≤ c2 := by have := hv.rd; omega
      have hc64 : (64 : Int) ≤ c2 := by omega
      have hm64' : (64 : Int) ≤ m := by omega
      have hm0 : (0 : Int) < m := by omega
      have hload : (loadAgg 24 (.pointer A2)).run Tryd.prog wr.drew = .ok (.value (.agg (u8s bl))) wr.drew :=
        run_loadAgg_part 64 24 (by kernel_rfl) (by kernel_rfl) wr.drew wr.heap.size A2 bl hbl (by omega) hrd8
      have harr := fun (w : World) => run_arrayAt w _ _ 64 A2 64 c2 Tryd.underlying24 (Nat.le_refl 64)
      have hfrom : ∀ w, (Instr.sliceAt 27 (.slice A2 m c2) (some (.int .i64 64)) none none).run Tryd.prog w = .ok (.slice (subA A2 c2 64) (m - 64) (c2 - 64)) w := run_from Tryd.underlying27 (by kernel_rfl) A2 m c2 64 hm64
      have hb3 := HBK.out sk bl wr.drew hsl hbl RG.drew
      rw [hSS] at hb3
      have HB3 := Lib.hid hb3
      have HNX := Lib.hid hnx
      have HS1 := Lib.hid (SL.out (k + 1))
      clear hb3 hSS hv hvt hrd8 hnx
      have R3h := R3.has; have R3r := R3.row; have R3l := R3.lt
      go_wp2_with (first | (refine wp_region_lex [] (by kernel_rfl) (by decide +kernel) ?_) | (refine wpLex_nil ?_) | (refine wpLex_pure rfl (fun _ _ => ?_); go_simp; try go_bits) | (refine wpLex_read rfl (fun _ _ => ?_); go_simp; try go_bits) | (refine wpLex_loud rfl (fun _ _ => ?_)))
      refine HB3.out.mono ?_
      rintro e w3 ⟨rfl, hb3⟩
      have hq3 : Below wr.heap.size wr w3 := Below.pred (w1 := wr) (by repeat (first | with_reducible exact Below.refl _ _ | with_reducible assumption | refine Below.drew ?_ | refine below_drewN ?_ | refine Below.alloc ?_ (by first | omega | (simp; done) | (simp; omega)) _ | refine below_setRow ?_ (by omega) _ | refine Below.setCell ?_ (by first | omega | (simp; done) | (simp; omega)) _)) hb3
      clear hb3 hload R3h R3r R3l
      have hs1 := HS1.out
      replace R2 := R2.step hq3; replace R3 := R3.step hq3; replace RG := RG.step hq3
      replace HB := HB.trans (hq3.mono HB.size)
      have R3h := R3.has; have R3r := R3.row; have R3l := R3.lt
      go_wp2_with (first | (refine wp_region_lex [] (by kernel_rfl) (by decide +kernel) ?_) | (refine wpLex_nil ?_) | (refine wpLex_pure rfl (fun _ _ => ?_); go_simp; try go_bits) | (refine wpLex_read rfl (fun _ _ => ?_); go_simp; try go_bits) | (refine wpLex_loud rfl (fun _ _ => ?_)))
      refine ⟨⟨k + 1, by omega, ⟨_, _, by rw [HNX.out], by rw [← HNX.out]; omega, HRS.out.below (below_setRow (hq3.mono hs3) (Nat.le_refl _) _)⟩, R2.set_ne (by omega) _, R3.set _, RG.set_ne (by omega) _, below_setRow HB (by omega) _⟩, by simp [lenOf]; omega⟩
    · have ek : k = K := by omega
      have e0 : L - 64 * k = 0 := by have := HLK.out; omega
      rw [e0]
      have hsl := SL.out k
      rw [ek] at hsl R3
      obtain ⟨sK, hsK⟩ : ∃ sK, sK = S K := ⟨_, rfl⟩
      rw [← hsK] at hsl R3 ⊢
      have HSK := Lib.hid hsK
      clear hrr hcc e0 hsK ek hlt hk
      obtain ⟨w3, rfl⟩ : ∃ w3, w3 = wr := ⟨_, rfl⟩
      have R3h := R3.has; have R3r := R3.row; have R3l := R3.lt
      have hs3 := HB.size
      have hR2l := R2.lt
      have hidx := fun j hj w => run_index32 Tryd.underlying23 Tryd.underlying22 (by kernel_rfl) sK j hsl hj w
      have HI := Lib.hid hidx
      clear hidx
      go_wp2_with fail
      go_loopw [26] (fun i wr' => ∃ (j : Nat) (o : List UInt8), j ≤ 8 ∧ i = .int .i64 j ∧ o.length = 32 ∧ (∀ x, x < 4 * j → at8 o x = at8 (beL sK) x) ∧ RowIs wr' w.heap.size (u8s (zeros 32)) ∧ RowIs wr' w3.heap.size (u8s o) ∧ Below w.heap.size w wr') (fun i _ => 8 - (intOf i).toNat)
      case atStart => exact ⟨0, zeros 32, by omega, rfl, zeros_length _, fun x hx => by omega, R2.alloc _, RowIs.new _ _ _, HB.alloc hs3 _⟩
      case round =>
        clear R3 R3h R3r R3l R2 RG HB
        obtain ⟨j, o, hj, rfl, hol, hox, R2, R5, HB⟩ := hrel
        have HO := Lib.hid hox
        clear hox
        by_cases hlt8 : j < 8
        · have hj0 : (0 : Int) ≤ (j : Int) := by omega
          have hj1 : (j : Int) < 8 := by omega
          obtain ⟨x, hx⟩ : ∃ x : Nat, (4 : Int) * j = x := ⟨4 * j, by omega⟩
          have hx0 : (0 : Int) ≤ x := by omega
          have hx32 : (x : Int) ≤ 32 := by omega
          have hne : ¬ (32 = x) := by omega
          have hix := HI.out j hlt8
          obtain ⟨y, hy⟩ : ∃ y, y = at32 sK j := ⟨_, rfl⟩
          rw [← hy] at hix
          have HY := Lib.hid hy
          clear hy
          have hcx : IntKind.u64.wrap (n32 y) = n32 y := by
            have := n32_ge y; have := n32_lt y; rw [wrap_u64]; omega
          have R5l := R5.lt
          go_wp2_with (first | (refine wp_region_lex [] (by kernel_rfl) (by decide +kernel) ?_) | (refine wpLex_nil ?_) | (refine wpLex_pure rfl (fun _ _ => ?_); go_simp; try go_bits) | (refine wpLex_read rfl (fun _ _ => ?_); go_simp; try go_bits) | (refine wpLex_loud rfl (fun _ _ => ?_)))
          refine (high4_bs y _).mono ?_
          rintro e w4 ⟨v4, rfl, hv4, hb4⟩
          have hq4 : Below wr.heap.size wr w4 := Below.pred (w1 := wr) (by repeat (first | with_reducible exact Below.refl _ _ | with_reducible assumption | refine Below.drew ?_ | refine below_drewN ?_ | refine Below.alloc ?_ (by first | omega | (simp; done) | (simp; omega)) _ | refine below_setRow ?_ (by omega) _ | refine Below.setCell ?_ (by first | omega | (simp; done) | (simp; omega)) _)) hb4
          clear hb4
          obtain ⟨cs, hcs⟩ : ∃ cs, cs = beB y := ⟨_, rfl⟩
          have hcl : cs.length = 4 := by rw [hcs, beB_length]
          rw [← hcs] at hv4
          have HCS := Lib.hid hcs
          clear hcs
          replace R2 := R2.step hq4; replace R5 := R5.step hq4
          replace HB := HB.trans (hq4.mono HB.size)
          obtain ⟨A4, c4, rfl, h41, -, h43⟩ := hv4
          go_wp2_with (first | (refine wp_region_lex [] (by kernel_rfl) (by decide +kernel) ?_) | (refine wpLex_nil ?_) | (refine wpLex_pure rfl (fun _ _ => ?_); go_simp; try go_bits) | (refine wpLex_read rfl (fun _ _ => ?_); go_simp; try go_bits) | (refine wpLex_loud rfl (fun _ _ => ?_)) | (with_reducible refine copy_here ?_; (refine wpList_copy8 rfl (.tmp 32) (.tmp 35) _ _ rfl 5 Tryd.underlying27 (by kernel_rfl) _ _ _ _ _ _ _ rfl rfl o cs R5 (by omega) _ h43 (by omega) ?_)))
          have hsw : w.heap.size < w3.heap.size := hR2l
          refine ⟨⟨j + 1, spl o x cs, by omega, by go_num, by rw [spl_length _ _ _ (by omega)]; exact hol, fun y' hy => ?_, R2.set_ne (by omega) _, R5.set _, below_setRow HB (by omega) _⟩, by simp [intOf]; omega⟩
          rw [at8_spl' _ _ _ _ (by omega)]
          by_cases hyx : y' < x
          · rw [if_pos hyx]; exact HO.out y' (by omega)
          · rw [if_neg hyx, if_pos (by omega), HCS.out, HY.out, beL_at sK j y' (by omega) (by omega) (by omega), show y' - x = y' - 4 * j by omega]
        · have e8 : j = 8 := by omega
          subst e8
          rw [show ((8 : Nat) : Int) = 8 from rfl]
          have EO := Lib.hid (show o = beL sK from ext8' (by rw [hol, beL_length, hsl]) fun y hy => HO.out y (by omega))
          have R2h := R2.has; have R2r := R2.row; have R2l := R2.lt; have R5h := R5.has; have R5r := R5.row; have R5l := R5.lt
          go_wp2_with fail
          refine bodyPost_retRow 2 _ w.heap.size 32 rfl rfl (by omega) (by kernel_rfl) (by kernel_rfl) ?_ rfl ?_
          · go_simp
          · go_simp
            exact ⟨by rw [EO.out, HSK.out], below_setRow HB (by omega) _⟩
end Go.Proofs.YtopmdbmnlflpgaaDoor
