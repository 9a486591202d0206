/- Layer 2, the document's: the digest. -/
import Derived.Test.YtopmdbmnlflpgaaDoorRefSha
import Derived.Test.YtopmdbmnlflpgaaDoorRefPad
import Derived.Test.YtopmdbmnlflpgaaDoorShaM
namespace Go.Proofs.YtopmdbmnlflpgaaDoor
open Go.RowKit
theorem build8s (w : World) : (buildK 23 #[(0, .int .u32 1779033703), (1, .int .u32 3144134277), (2, .int .u32 1013904242), (3, .int .u32 2773480762), (4, .int .u32 1359893119), (5, .int .u32 2600822924), (6, .int .u32 528734635), (7, .int .u32 1541459225)]).run Tryd.prog w = .ok (.value (.agg (u32s startS))) w :=
  run_buildK (by rw [u32s_def]; unfold startS; change _ = _; kernel_rfl) w
theorem be_byte (x : UInt32) (r m : Nat) (hr : r < 4) (hm : m = 24 - 8 * r) : n32 x / (2 : Int) ^ m % (256 : Int) = n8 (at8 (beB x) r) := by
  have hl : (lowB (wide x) 4).length = 4 := by simp [lowB_length]
  rw [beB_def, at8_reverse _ _ (by omega), hl, ← wide_fold]
  unfold lowB
  rw [at8_map 4 _ _ (by omega)]
  have := byteOf_fold (wide x) (4 - 1 - r)
  rw [hm, show 24 - 8 * r = 8 * (4 - 1 - r) by omega]
  exact this
theorem c8_of {w : World} {B : Nat} {A : Option Addr} {l : List UInt8} (h : Rd8 w B A l) (j : Nat) (hj : j < l.length) : ∃ g o, A = some ⟨g, o, none⟩ ∧ w.cell? ⟨g, o + j, none⟩ = some (.int .u8 (n8 (at8 l j))) := by
  obtain ⟨g, o, rfl, _, hc⟩ := h (by omega)
  exact ⟨g, o, rfl, hc j hj⟩
theorem RowIs.c8 {w : World} {g : Nat} {l : List UInt8} (h : RowIs w g (u8s l)) (j : Nat) (hj : j < l.length) : w.cell? ⟨g, j, none⟩ = some (.int .u8 (n8 (at8 l j))) := by
  obtain ⟨t, ht⟩ := h.row.heap
  rw [h.has] at ht
  rw [cell_of_row _ g j _ t (0, 0) ht]
  exact u8s_get l j hj
set_option maxRecDepth 100000 in
set_option maxHeartbeats 2000000 in
theorem digest_any (vb : Value) (b : List UInt8) (w : World) (hvb : Bs w vb b) (hm : b.length ≤ 17592186044416) :
    Calls Tryd.prog 27 #[vb] w (KRes w (shaB b)) := by
  obtain ⟨F, hF⟩ : ∃ F, F = b ++ padB b.length := ⟨_, rfl⟩
  obtain ⟨L, hL⟩ : ∃ L, L = F.length := ⟨_, rfl⟩
  obtain ⟨K, hK⟩ : ∃ K, K = L / 64 := ⟨_, rfl⟩
  have hLK : L = 64 * K := by
    have := padB_whole b.length
    rw [hK, hL, hF, List.length_append]; omega
  have hLm : L ≤ 17592186044516 := by
    have := padB_length b.length
    have hz : padZ b.length < 64 := by unfold padZ; omega
    rw [hL, hF, List.length_append]; omega
  have hres : shaB b = beL (foldB F K) := by rw [shaB_def, ← hF, ← hL, ← hK]
  obtain ⟨S, hS⟩ : ∃ S : Nat → List UInt32, S = foldB F := ⟨_, rfl⟩
  have S0 : Hid (S 0 = startS) := Lib.hid (by rw [hS]; rfl)
  have SL : Hid (∀ k, (S k).length = 8) := Lib.hid (by rw [hS]; exact foldB_length F)
  have SS : Hid (∀ k, shaBlock (S k) ((F.drop (64 * k)).take 64) = S (k + 1)) := Lib.hid (by rw [hS]; intro k; rfl)
  rw [hres, ← hS]
  have hcat : b ++ padB b.length = F := hF.symm
  have hpd := fun w => refPad_any b.length (by omega) w
  obtain ⟨pb, hpb⟩ : ∃ pb, pb = padB b.length := ⟨_, rfl⟩
  rw [← hpb] at hcat hpd
  have HPD := Lib.hid hpd
  have HC := Lib.hid hcat
  have HLF := Lib.hid hL.symm
  have HLK := Lib.hid hLK
  have hssl := startS_length
  have hbs := build8s
  obtain ⟨s0, hs0⟩ : ∃ s0, s0 = startS := ⟨_, rfl⟩
  rw [← hs0] at hssl S0 hbs
  have HBK : Hid (∀ st bl (w : World), st.length = 8 → bl.length = 64 → Calls Tryd.prog 22 #[.agg (u32s st), .agg (u8s bl)] w (WRes w (shaBlock st bl))) := Lib.hid fun st bl w h1 h2 => refBlock_any st bl h1 h2 w
  clear hF hL hK hLK hres hS hcat hpd hpb hs0
  have hvb0 := hvb
  obtain ⟨A, c, rfl, -, -, -⟩ := hvb
  obtain ⟨n, hn⟩ : ∃ n, b.length = n := ⟨_, rfl⟩
  rw [hn] at HPD hvb0 hm ⊢
  have HN := Lib.hid hn
  clear hn
  go_enter Tryd.func27, Tryd.ntmps27
  have R2 : RowIs ((w.alloc (.cells (u8s (zeros 32)) 33)).alloc (.cells #[] 5)) w.heap.size (u8s (zeros 32)) := (RowIs.new _ _ _).alloc _
  have HB : Below w.heap.size w ((w.alloc (.cells (u8s (zeros 32)) 33)).alloc (.cells #[] 5)) := (by repeat (first | with_reducible exact Below.refl _ _ | with_reducible assumption | refine Below.drew ?_ | refine below_drewN ?_ | refine Below.alloc ?_ (by first | omega | (simp; done) | (simp; omega)) _ | refine below_setRow ?_ (by omega) _ | refine Below.setCell ?_ (by first | omega | (simp; done) | (simp; omega)) _))
  have own0 := Own8.empty (T := 5) (g := w.heap.size + 1) (w.alloc (.cells (u8s (zeros 32)) 33)) (base := w.heap.size + 1) (by simp) (by simp)
  have hvb1 := hvb0.step HB
  go_wp2_with (at_builtin; refine wpList_appendBs Tryd.underlying27 Tryd.info8 rfl (.tmp 10) (.tmp 11) rfl (w.heap.size + 1) rfl own0 rfl hvb1 (List.nil_append _) HN.out (by omega) (by simp) ?_; intro A1 c1 w1 own1 bel1)
  have R2 := R2.below bel1 (by omega)
  replace HB := HB.trans (bel1.mono (by omega))
  refine (HPD.out _).mono ?_
  rintro e w2 ⟨v2, rfl, hv2, hb2⟩
  have own2 := own1.step hb2
  replace R2 := R2.step hb2
  replace HB := HB.trans (hb2.mono HB.size)
  have hsz := R2.lt
  clear own0 own1 bel1 hb2 hvb0 hvb1
  go_wp2_with (at_builtin; refine wpList_appendBs Tryd.underlying27 Tryd.info8 rfl (.tmp 12) (.tmp 15) rfl (w.heap.size + 1) rfl own2 rfl hv2 HC.out HLF.out (by omega) (by omega) ?_; intro A3 c3 w3 own3 bel3; have R3 := R2.below bel3 (by omega); have HB3 := HB.trans (bel3.mono (by omega)); have hs3 := R3.lt)
  clear R2 HB hsz own2 hv2
  have rd3 := own3.rd
  have hL3 : L ≤ c3 := by have := own3.len; rw [HLF.out] at this; exact this.2
  have R4 : RowIs (w3.alloc (.cells (u32s s0) 23)) w3.heap.size (u32s (S 0)) := by rw [S0.out]; exact RowIs.new _ _ _
  have R2 := R3.alloc (.cells (u32s s0) 23)
  have HB := HB3.alloc (by omega) (.cells (u32s s0) 23)
  have rd4 := rd3.below ((Below.refl w3.heap.size w3).alloc (Nat.le_refl _) (.cells (u32s s0) 23))
  have hw3 := HB3.size
  clear rd3 R3 HB3 own3 bel3
  go_loopw [5] (fun i wr => ∃ k : Nat, k ≤ K ∧ i = .int .i64 ((64 * k : Nat) : Int) ∧ RowIs wr w.heap.size (u8s (zeros 32)) ∧ RowIs wr w3.heap.size (u32s (S k)) ∧ Rd8 wr w3.heap.size A3 F ∧ Below w.heap.size w wr) (fun i _ => L - (intOf i).toNat)
  case atStart => exact ⟨0, by omega, rfl, R2, R4, rd4, HB⟩
  case round =>
    clear R2 R4 rd4 HB
    obtain ⟨k, hk, rfl, R2, R4, rd, HB⟩ := hrel
    have hsl := SL.out k
    obtain ⟨a, ha⟩ : ∃ a, a = 64 * k := ⟨_, rfl⟩
    rw [← ha]
    by_cases hlt : k < K
    · have haL : a + 64 ≤ L := by have := HLK.out; omega
      have ha1 : (a : Int) + (64 : Int) ≤ L := by omega
      have hSS := SS.out k
      rw [← ha] at hSS
      obtain ⟨sk, hsk⟩ : ∃ sk, sk = S k := ⟨_, rfl⟩
      rw [← hsk] at R4 hSS hsl
      have HA := Lib.hid ha
      have HSS := Lib.hid hSS
      have HS1 := Lib.hid (SL.out (k + 1))
      have hw4 := HB.size
      have hr4 := R4.lt
      clear hsk ha hSS hlt hk
      obtain ⟨w4, rfl⟩ : ∃ w4, w4 = wr := ⟨_, rfl⟩
      go_wp2_with fail
      go_loopw [7] (fun i wr => ∃ (j : Nat) (o : List UInt8), j ≤ 64 ∧ i = .int .i64 j ∧ o.length = 64 ∧ (∀ x, x < j → at8 o x = at8 F (a + x)) ∧ wr = w4.alloc (.cells (u8s o) 24)) (fun i _ => 64 - (intOf i).toNat)
      case atStart => exact ⟨0, z8 64, by omega, rfl, z8_length _, fun x hx => by omega, rfl⟩
      case round =>
        obtain ⟨j, o, hj, rfl, hol, hox, rfl⟩ := hrel
        have HO := Lib.hid hox
        clear hox
        by_cases hj64 : j < 64
        · obtain ⟨x, hx⟩ : ∃ x : Nat, (a : Int) + j = x := ⟨a + j, by omega⟩
          have hxL : x < L := by omega
          obtain ⟨g, of, rfl, hc⟩ := c8_of rd x (by rw [HLF.out]; exact hxL)
          have hg : g < w3.heap.size := by
            obtain ⟨g', o', e, hb, _⟩ := rd (by rw [HLF.out]; omega)
            cases e; exact hb
          have hg4 : g < w4.heap.size := by omega
          have hx0 : (0 : Int) ≤ x := by omega
          have hx1 : (x : Int) < L := by omega
          have hj0 : (0 : Int) ≤ j := by omega
          have hj1 : (j : Int) < 64 := by omega
          go_wp2_with fail
          refine ⟨⟨j + 1, o.set j (at8 F x), by omega, by go_num, by rw [List.length_set]; exact hol, fun y hy => ?_, ?_⟩, by simp [intOf]; omega⟩
          · rw [at8_set _ _ _ _ (by omega)]
            split
            · subst_vars; congr 1; omega
            · exact HO.out y (by omega)
          · first | rfl | rw [u8s_set]
        · have ej : j = 64 := by omega
          subst ej
          have eo : o = (F.drop a).take 64 := ext8' (by simp [hol, HLF.out]; omega) fun y hy => by rw [HO.out y (by omega), at8_take _ _ _ (by omega), at8_drop]
          have HEO := Lib.hid eo
          have hbk := HBK.out sk o (w4.alloc (.cells (u8s o) 24)) hsl hol
          rw [HEO.out, HSS.out, ← HEO.out] at hbk
          have HBK4 := Lib.hid hbk
          clear eo hbk
          have R4h := R4.has; have R4r := R4.row; have R4l := R4.lt
          go_wp2_with fail
          refine HBK4.out.mono ?_
          rintro e w5 ⟨rfl, hb5⟩
          have hq5 : Below w4.heap.size w4 w5 := Below.pred (w1 := w4) (by repeat (first | with_reducible exact Below.refl _ _ | with_reducible assumption | refine Below.drew ?_ | refine below_drewN ?_ | refine Below.alloc ?_ (by first | omega | (simp; done) | (simp; omega)) _ | refine below_setRow ?_ (by omega) _ | refine Below.setCell ?_ (by first | omega | (simp; done) | (simp; omega)) _)) hb5
          have hs1 := HS1.out
          clear hb5 R4h R4r R4l
          replace R2 := R2.step hq5; replace R4 := R4.step hq5
          replace HB := HB.trans (hq5.mono HB.size)
          have R4h := R4.has; have R4r := R4.row; have R4l := R4.lt
          go_wp2_with fail
          go_roundw
          case rel => exact ⟨k + 1, by have := HLK.out; have := HA.out; omega, by rw [HA.out]; go_num, R2.set_ne (by omega) _, R4.set _, rd.below (below_setRow (hq5.mono (by omega)) (Nat.le_refl _) _), below_setRow HB (by omega) _⟩
          case measure => simp [intOf]; omega
    · have ek : k = K := by omega
      subst ek
      have haL : a = L := by have := HLK.out; omega
      have haB : (a : Int) ≤ (17592186044516 : Int) := by omega
      have hne : ¬ ((a : Int) + (64 : Int) ≤ L) := by omega
      obtain ⟨sK, hsK⟩ : ∃ sK, sK = S k := ⟨_, rfl⟩
      rw [← hsK] at hsl R4
      have HSK := Lib.hid hsK
      have hbl := beL_length sK
      rw [hsl] at hbl
      have HBL := Lib.hid hbl
      clear hbl
      have HSL := Lib.hid hsl
      have hs3 := HB.size
      obtain ⟨w4, rfl⟩ : ∃ w4, w4 = wr := ⟨_, rfl⟩
      have hw2l := R2.lt
      clear hsK ha haL hk hlt rd
      go_wp2_with fail
      go_loopw [9] (fun i wr => ∃ (j : Nat) (o : List UInt8), j ≤ 32 ∧ i = .int .i64 j ∧ o.length = 32 ∧ (∀ x, x < j → at8 o x = at8 (beL sK) x) ∧ RowIs wr w.heap.size (u8s (zeros 32)) ∧ RowIs wr w3.heap.size (u32s sK) ∧ RowIs wr w4.heap.size (u8s o) ∧ Below w.heap.size w wr) (fun i _ => 32 - (intOf i).toNat)
      case atStart => exact ⟨0, zeros 32, by omega, rfl, zeros_length _, fun x hx => by omega, R2.alloc _, R4.alloc _, RowIs.new _ _ _, HB.alloc hs3 _⟩
      case round =>
        have hne4 := R4.lt
        clear R2 R4 HB
        obtain ⟨j, o, hj, rfl, hol, hox, R2, R4, R5, HB⟩ := hrel
        have HO := Lib.hid hox
        clear hox
        by_cases hj32 : j < 32
        · obtain ⟨q, hq⟩ : ∃ q, q = j / 4 := ⟨_, rfl⟩
          obtain ⟨r, hr⟩ : ∃ r, r = j % 4 := ⟨_, rfl⟩
          have hq1 : (j : Int) / (4 : Int) = q := by omega
          have hr1 : (j : Int) % (4 : Int) = r := by omega
          obtain ⟨t, ht⟩ : ∃ t : Nat, (8 : Int) * r = t := ⟨8 * r, by omega⟩
          obtain ⟨m, hm'⟩ : ∃ m : Nat, (24 : Int) - t = m := ⟨24 - t, by omega⟩
          have hj0 : (0 : Int) ≤ j := by omega
          have hj1 : (j : Int) < 32 := by omega
          have hq0 : (0 : Int) ≤ q := by omega
          have hq8 : (q : Int) < 8 := by omega
          have hm0 : (0 : Int) ≤ m := by omega
          have hm24 : (m : Int) < 32 := by omega
          have hm32 : m ≤ 32 := by omega
          have hby := be_byte (at32 sK q) r m (by omega) (by omega)
          have hat := beL_at sK q j (by rw [HSL.out]; omega) (by omega) (by omega)
          rw [show j - 4 * q = r by omega] at hat
          obtain ⟨bb, hbb⟩ : ∃ bb, bb = at8 (beB (at32 sK q)) r := ⟨_, rfl⟩
          rw [← hbb] at hby hat
          have HAT := Lib.hid hat
          have c4 := R4.c32 q (by rw [HSL.out]; omega)
          have z5 := R5.fz j
          have c5 := R5.c8 j (by omega)
          have hj3 : j < 32 := hj32
          clear hq hr hat hbb
          go_wp2_with fail
          refine ⟨⟨j + 1, o.set j bb, by omega, by go_num, by rw [List.length_set]; exact hol, fun y hy => ?_, R2.put_ne (by first | omega | (simp; done) | (simp; omega)) _, R4.put_ne (by first | omega | (simp; done) | (simp; omega)) _, by rw [← u8s_set]; exact R5.put j _, HB.setCell (by first | omega | (simp; done) | (simp; omega)) _⟩, by simp [intOf]; omega⟩
          rw [at8_set _ _ _ _ (by omega)]
          split
          · rename_i hjy; rw [← hjy]; exact HAT.out.symm
          · exact HO.out y (by omega)
        · have ej : j = 32 := by omega
          subst ej
          rw [show ((32 : Nat) : Int) = 32 from rfl]
          have EO := Lib.hid (show o = beL sK from ext8' (by rw [hol, HBL.out]) fun y hy => HO.out y (by omega))
          have R2h := R2.has; have R2r := R2.row; have R2l := R2.lt; have R5h := R5.has; have R5r := R5.row; have R5l := R5.lt
          go_wp2_with fail
          refine bodyPost_retRow 2 _ w.heap.size 32 rfl rfl (by omega) (by kernel_rfl) (by kernel_rfl) ?_ rfl ?_
          · go_simp
          · go_simp
            exact ⟨by rw [EO.out, HSK.out], below_setRow HB (by omega) _⟩
end Go.Proofs.YtopmdbmnlflpgaaDoor
