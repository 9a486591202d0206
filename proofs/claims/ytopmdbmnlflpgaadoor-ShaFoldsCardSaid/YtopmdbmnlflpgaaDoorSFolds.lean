/- ShaFolds: the walk. -/
import Derived.Test.YtopmdbmnlflpgaaDoorAw2
import Derived.Test.YtopmdbmnlflpgaaDoorRefDig
namespace Go.Proofs.YtopmdbmnlflpgaaDoor
open Go.RowKit
theorem word_piece (s : List UInt32) (j : Nat) (hj : j < s.length) : ((beL s).drop (4 * j)).take 4 = beB (at32 s j) := by
  have hl : (beL s).length = 4 * s.length := beL_length s
  have hb : (beB (at32 s j)).length = 4 := by rw [beB_def]; simp [lowB_length]
  refine ext8' (by rw [hb]; simp only [List.length_take, List.length_drop]; omega) fun y hy => ?_
  have hy4 : y < 4 := by simp only [List.length_take, List.length_drop] at hy; omega
  rw [at8_take _ _ _ hy4, at8_drop, beL_at s j (4 * j + y) hj (by omega) (by omega), show 4 * j + y - 4 * j = y by omega]
theorem word_back (s : List UInt32) (j : Nat) (hj : j < s.length) : n64 (numK (((beL s).drop (4 * j)).take 4) (min (((beL s).drop (4 * j)).take 4).length 8)) = n32 (at32 s j) := by
  rw [word_piece s j hj, ofHigh_ref, beB_def, List.length_reverse, lowB_length, ← wide_fold]
  congr 1
  refine ofHigh_highB (wide (at32 s j)) 4 (by omega) ?_
  have h := n32_lt (at32 s j)
  rw [← wide_fold, n64_def] at h
  omega
theorem falls (a b : List UInt8) : foldB ((a ++ b) ++ padB (a.length + b.length)) (((a ++ b) ++ padB (a.length + b.length)).length / 64) = foldB ((a ++ b) ++ padB (a ++ b).length) (((a ++ b) ++ padB (a ++ b).length).length / 64) := by rw [show a.length + b.length = (a ++ b).length from List.length_append.symm]
theorem slice_key (g x y : Nat) (hy : y = x + 4) (hx : y ≤ 32) (w : World) : (Instr.sliceAt 33 (.pointer (some ⟨g, 0, none⟩)) (some (.int .i64 x)) (some (.int .i64 y)) none).run Tryd.prog w = .ok (.slice (some ⟨g, x, none⟩) 4 (32 - x)) w := by
  have hl : Tryd.prog.arrayLen 33 = 32 := by kernel_rfl
  have he : Tryd.prog.underlying 33 = some (.array (Tryd.prog.arrayLen 33) (Tryd.prog.elem 33)) := by kernel_rfl
  have hz : (sizeOf (Tryd.prog.elem 33)).run Tryd.prog w = .ok 1 w := by kernel_rfl
  rw [run_sliceAt_array_lh w _ _ he .i64 .i64 x y (by omega) (by omega) (by rw [hl]; omega), hz, hl]
  simp only [Result.andThen, slicedAt, Int.toNat_natCast, Nat.mul_one]
  rw [if_neg (by omega), show y - x = 4 by omega]
  simp [Addr.add]
  exact fun h => h.symm
def FR (w : World) (g8 : Nat) (S : Nat → List UInt32) (wr : World) (k : Nat) : Prop := RowIs wr g8 (u32s (S k)) ∧ Below w.heap.size w wr
set_option maxRecDepth 100000 in
set_option maxHeartbeats 3200000 in
theorem folds_any (va vb : Value) (a b : List UInt8) (w : World) (he : ShaEnv w) (hva : Bs w va a) (hvb : Bs w vb b) (h1 : ¬ 300 < a.length) (h2 : ¬ 300 < b.length) :
    Calls Tryd.prog 6 #[va, vb] w (TrueRes' w) := by
  obtain ⟨F, hF⟩ : ∃ F, F = (a ++ b) ++ padB (a.length + b.length) := ⟨_, rfl⟩
  obtain ⟨L, hL⟩ : ∃ L, L = F.length := ⟨_, rfl⟩
  obtain ⟨K, hK⟩ : ∃ K, K = L / 64 := ⟨_, rfl⟩
  have hLK : L = 64 * K := by
    have := padB_whole (a.length + b.length)
    rw [hK, hL, hF, List.length_append, List.length_append]; omega
  have hLm : L ≤ 700 := by
    have := padB_length (a.length + b.length)
    have hz : padZ (a.length + b.length) < 64 := by unfold padZ; omega
    rw [hL, hF, List.length_append, List.length_append]; omega
  have hres : shaB [a, b].flatten = beL (foldB F K) := by
    have e : [a, b].flatten = a ++ b := by simp
    rw [e, shaB_def, ← falls, ← hF, ← hL, ← hK]
  obtain ⟨S, hS⟩ : ∃ S : Nat → List UInt32, S = foldB F := ⟨_, rfl⟩
  have S0 : Hid (S 0 = startS) := Lib.hid (by rw [hS]; rfl)
  have SL : Hid (∀ k, (S k).length = 8) := Lib.hid (by rw [hS]; exact foldB_length F)
  have SS : Hid (∀ k, shaBlock (S k) ((F.drop (64 * k)).take 64) = S (k + 1)) := Lib.hid (by rw [hS]; intro k; rfl)
  rw [← hS] at hres
  have HRS := Lib.hid hres
  have hcat : (a ++ b) ++ padB (a.length + b.length) = F := hF.symm
  have hpd := fun w => pad_any (a.length + b.length) (by omega) w
  obtain ⟨pb, hpb⟩ : ∃ pb, pb = padB (a.length + b.length) := ⟨_, rfl⟩
  rw [← hpb] at hcat hpd
  have HPD := Lib.hid hpd
  have HC := Lib.hid hcat
  have HLF := Lib.hid hL.symm
  have HLK := Lib.hid hLK
  have hmod : (L : Int) % (64 : Int) = 0 := by omega
  have hssl := startS_length
  have hbs := build8s
  obtain ⟨s0, hs0⟩ : ∃ s0, s0 = startS := ⟨_, rfl⟩
  rw [← hs0] at hssl S0 hbs
  have HBK : Hid (∀ st bl (w : World), st.length = 8 → bl.length = 64 → RowIs w 0 (u32s roundsL) → Calls Tryd.prog 20 #[.agg (u32s st), .agg (u8s bl)] w (WRes w (shaBlock st bl))) := Lib.hid fun st bl w h1 h2 h3 => block_any st bl h1 h2 w h3
  clear hF hL hK hLK hres hS hcat hpd hpb hs0
  obtain ⟨ab, hab⟩ : ∃ ab, a ++ b = ab := ⟨_, rfl⟩
  obtain ⟨m, hm⟩ : ∃ m, ab.length = m := ⟨_, rfl⟩
  have hml : m ≤ 600 := by rw [← hm, ← hab, List.length_append]; omega
  rw [hab] at HC
  have HM := Lib.hid hm
  have HAB := Lib.hid hab
  have hmn : (a.length : Int) + (b.length : Int) = m := by rw [← hm, ← hab, List.length_append]; omega
  have hmn' : a.length + b.length = m := by omega
  have h1' : ¬ (300 : Int) < a.length := by omega
  have h2' : ¬ (300 : Int) < b.length := by omega
  rw [hmn'] at HPD
  have hL7 : (L : Int) ≤ (700 : Int) := by omega
  clear hm hab hmn'
  obtain ⟨na, hna⟩ : ∃ na, a.length = na := ⟨_, rfl⟩
  obtain ⟨nb, hnb⟩ : ∃ nb, b.length = nb := ⟨_, rfl⟩
  have HNA := Lib.hid hna
  have HNB := Lib.hid hnb
  rw [hna] at hmn h1 h1'
  rw [hnb] at hmn h2 h2'
  have hva0 := hva
  have hvb0 := hvb
  obtain ⟨A, c, rfl, -, -, -⟩ := hva
  obtain ⟨A2, c2, rfl, -, -, -⟩ := hvb
  rw [hna] at hva0 ⊢
  rw [hnb] at hvb0 ⊢
  clear hna hnb
  go_enter Tryd.func6, Tryd.ntmps6
  go_wp2_with fail
  refine (awake_any _ he).mono ?_
  rintro e w1 ⟨rfl, HB⟩
  have hw1 := HB.size
  replace he := he.step HB; replace hva0 := hva0.step HB; replace hvb0 := hvb0.step HB
  go_wp2_with fail
  refine (new_any false _).mono ?_
  rintro e w2 ⟨gp, rfl, hmt, hgp, hb2⟩
  replace he := he.step hb2; replace hva0 := hva0.step hb2; replace hvb0 := hvb0.step hb2
  replace HB := HB.trans (hb2.mono HB.size)
  have hw2 := HB.size
  have hgl := hmt.lt
  clear hb2
  have HBW : Below w2.heap.size w2 ((w2.alloc (.cells (u32s s0) 23)).alloc (.cells #[] 5)) := (by repeat (first | with_reducible exact Below.refl _ _ | with_reducible assumption | refine Below.drew ?_ | refine below_drewN ?_ | refine Below.alloc ?_ (by first | omega | (simp; done) | (simp; omega)) _ | refine below_setRow ?_ (by omega) _ | refine Below.setCell ?_ (by first | omega | (simp; done) | (simp; omega)) _))
  have R7 : RowIs ((w2.alloc (.cells (u32s s0) 23)).alloc (.cells #[] 5)) w2.heap.size (u32s s0) := (RowIs.new _ _ _).alloc _
  have own0 := Own8.empty (T := 5) (g := w2.heap.size + 1) (w2.alloc (.cells (u32s s0) 23)) (base := w2.heap.size + 1) (by simp) (by simp)
  have hva1 := hva0.step HBW
  go_wp2_with (first
    | (at_builtin; refine wpList_appendBs Tryd.underlying27 Tryd.info8 rfl (.tmp 27) (.tmp 28) rfl (w2.heap.size + 1) rfl own0 rfl hva1 (List.nil_append _) HNA.out (by omega) (by simp) ?_; intro A1 c1 w3 own1 bel1; replace HBW := HBW.trans (bel1.mono (by omega)); replace R7 := R7.below bel1 (by omega); have hvb1 := hvb0.step HBW; have hz1 := R7.lt; clear own0 hva1 bel1)
    | (at_builtin; refine wpList_appendBs Tryd.underlying27 Tryd.info8 rfl (.tmp 29) (.tmp 30) rfl (w2.heap.size + 1) rfl own1 rfl hvb1 HAB.out HM.out (by omega) (by omega) ?_; intro A4 c4 w4 own2 bel2; replace HBW := HBW.trans (bel2.mono (by omega)); replace R7 := R7.below bel2 (by omega); have hz2 := R7.lt; clear own1 hvb1 bel2))
  refine (HPD.out _).mono ?_
  rintro e w5 ⟨v5, rfl, hv5, hb5⟩
  replace HBW := HBW.trans (hb5.mono HBW.size)
  replace R7 := R7.step hb5
  replace own2 := own2.step hb5
  have hz3 := R7.lt
  clear hb5 hz1 hz2
  go_wp2_with (at_builtin; refine wpList_appendBs Tryd.underlying27 Tryd.info8 rfl (.tmp 31) (.tmp 37) rfl (w2.heap.size + 1) rfl own2 rfl hv5 HC.out HLF.out (by omega) (by omega) ?_; intro A8 c8 w8 own8 bel8; replace HBW := HBW.trans (bel8.mono (by omega)); replace R7 := R7.below bel8 (by omega); have R7h := R7.has; have R7l := R7.lt; have R7r := R7.row)
  have he8 := he.step HBW
  have hmt8 := hmt.step HBW
  have hva8 := hva0.step HBW
  have hvb8 := hvb0.step HBW
  replace HB := HB.trans (HBW.mono (by omega))
  have rd8 := own8.rd
  have hL8 : L ≤ c8 := by have := own8.len; rw [HLF.out] at this; exact this.2
  have R9 : RowIs (w8.alloc (.cells (u32s s0) 23)) w8.heap.size (u32s (S 0)) := by rw [S0.out]; exact RowIs.new _ _ _
  have hws := HBW.size
  clear hmn hmod he hmt hva0 hvb0 own8 HBW bel8 own2 hv5 R7 R7h R7l R7r
  go_loopw [10] (fun i wr => ∃ k : Nat, k ≤ K ∧ i = .int .i64 ((64 * k : Nat) : Int) ∧ RowIs wr w8.heap.size (u32s (S k)) ∧ Below w8.heap.size w8 wr) (fun i _ => L - (intOf i).toNat)
  case atStart => exact ⟨0, by omega, rfl, R9, (by repeat (first | with_reducible exact Below.refl _ _ | with_reducible assumption | refine Below.drew ?_ | refine below_drewN ?_ | refine Below.alloc ?_ (by first | omega | (simp; done) | (simp; omega)) _ | refine below_setRow ?_ (by omega) _ | refine Below.setCell ?_ (by first | omega | (simp; done) | (simp; omega)) _))⟩
  case round =>
    clear R9
    obtain ⟨k, hk, rfl, R9, HBL⟩ := hrel
    have hsl := SL.out k
    obtain ⟨a0, ha⟩ : ∃ a0, a0 = 64 * k := ⟨_, rfl⟩
    rw [← ha]
    have rd := rd8.below HBL
    by_cases hlt : k < K
    · have haL : a0 + 64 ≤ L := by have := HLK.out; omega
      have ha1 : (a0 : Int) + (64 : Int) ≤ L := by omega
      have hSS := SS.out k
      rw [← ha] at hSS
      obtain ⟨sk, hsk⟩ : ∃ sk, sk = S k := ⟨_, rfl⟩
      rw [← hsk] at R9 hSS hsl
      have HA := Lib.hid ha
      have HSS := Lib.hid hSS
      have HS1 := Lib.hid (SL.out (k + 1))
      have hw9 := HBL.size
      have hr9 := R9.lt
      have hrn := (he8.step HBL).rounds
      clear hsk ha hSS hlt hk
      obtain ⟨w9, rfl⟩ : ∃ w9, w9 = wr := ⟨_, rfl⟩
      go_wp2_with fail
      go_loopw [12] (fun i wr => ∃ (j : Nat) (o : List UInt8), j ≤ 64 ∧ i = .int .i64 j ∧ o.length = 64 ∧ (∀ x, x < j → at8 o x = at8 F (a0 + x)) ∧ wr = w9.alloc (.cells (u8s o) 24)) (fun i _ => 64 - (intOf i).toNat)
      case atStart => exact ⟨0, z8 64, by omega, rfl, z8_length _, fun x hx => by omega, rfl⟩
      case round =>
        obtain ⟨j, o, hj, rfl, hol, hox, rfl⟩ := hrel
        have HO := Lib.hid hox
        clear hox
        by_cases hj64 : j < 64
        · obtain ⟨x, hx⟩ : ∃ x : Nat, (a0 : Int) + j = x := ⟨a0 + j, by omega⟩
          have hxL : x < L := by omega
          obtain ⟨g, of, rfl, hc⟩ := c8_of rd x (by rw [HLF.out]; exact hxL)
          have hg : g < w8.heap.size := by
            obtain ⟨g', o', e, hb, _⟩ := rd8 (by rw [HLF.out]; omega)
            cases e; exact hb
          have hg4 : g < w9.heap.size := by omega
          have hx0 : (0 : Int) ≤ x := by omega
          have hx1 : (x : Int) < L := by omega
          have hj0 : (0 : Int) ≤ j := by omega
          have hj1 : (j : Int) < 64 := by omega
          go_wp2_with fail
          refine ⟨⟨j + 1, o.set j (at8 F x), by omega, by go_num, by rw [List.length_set]; exact hol, fun y hy => ?_, ?_⟩, by simp [intOf]; omega⟩
          · rw [at8_set _ _ _ _ (by omega)]
            split
            · subst_vars; congr 1; omega
            · exact HO.out y (by omega)
          · first | rfl | rw [u8s_set]
        · have ej : j = 64 := by omega
          subst ej
          have eo : o = (F.drop a0).take 64 := ext8' (by simp [hol, HLF.out]; omega) fun y hy => by rw [HO.out y (by omega), at8_take _ _ _ (by omega), at8_drop]
          have HEO := Lib.hid eo
          have hbk := HBK.out sk o (w9.alloc (.cells (u8s o) 24)) hsl hol (hrn.alloc _)
          rw [HEO.out, HSS.out, ← HEO.out] at hbk
          have HBK4 := Lib.hid hbk
          clear eo hbk
          have R9h := R9.has; have R9r := R9.row; have R9l := R9.lt
          go_wp2_with fail
          refine HBK4.out.mono ?_
          rintro e w10 ⟨rfl, hb10⟩
          have hq10 : Below w9.heap.size w9 w10 := Below.pred (w1 := w9) (by repeat (first | with_reducible exact Below.refl _ _ | with_reducible assumption | refine Below.drew ?_ | refine below_drewN ?_ | refine Below.alloc ?_ (by first | omega | (simp; done) | (simp; omega)) _ | refine below_setRow ?_ (by omega) _ | refine Below.setCell ?_ (by first | omega | (simp; done) | (simp; omega)) _)) hb10
          have hs1 := HS1.out
          clear hb10 R9h R9r R9l
          replace R9 := R9.step hq10
          replace HBL := HBL.trans (hq10.mono HBL.size)
          have R9h := R9.has; have R9r := R9.row; have R9l := R9.lt
          go_wp2_with fail
          go_roundw
          case rel => exact ⟨k + 1, by have := HLK.out; have := HA.out; omega, by rw [HA.out]; go_num, R9.set _, below_setRow HBL (by omega) _⟩
          case measure => simp [intOf]; omega
    · have ek : k = K := by omega
      subst ek
      have haL : a0 = L := by have := HLK.out; omega
      have haB : (a0 : Int) ≤ (700 : Int) := by omega
      have hne : ¬ ((a0 : Int) + (64 : Int) ≤ L) := by omega
      obtain ⟨sK, hsK⟩ : ∃ sK, sK = S k := ⟨_, rfl⟩
      have hrs := HRS.out
      rw [← hsK] at hsl R9 hrs
      have hbl := beL_length sK
      rw [hsl] at hbl
      have hkl := shaB_length [a, b].flatten
      have hwb := fun j hj => word_back sK j hj
      rw [hsl] at hwb
      obtain ⟨D, hD⟩ : ∃ D, D = beL sK := ⟨_, rfl⟩
      rw [← hD] at hwb hrs
      have HWB := Lib.hid hwb
      rw [hrs] at hkl
      have HKD := Lib.hid hrs
      have HDL := Lib.hid hkl
      have hvaL := hva8.step HBL
      have hvbL := hvb8.step HBL
      have hmL := hmt8.step HBL
      have heL := he8.step HBL
      replace HB := HB.trans (HBL.mono (by omega))
      have HSL := Lib.hid hsl
      obtain ⟨w9, rfl⟩ : ∃ w9, w9 = wr := ⟨_, rfl⟩
      have hr9 := R9.lt
      have hfl : [a, b].flatten.length ≤ 17592186044416 := by
        have e : [a, b].flatten = a ++ b := by simp
        have := HNA.out
        have := HNB.out
        rw [e, List.length_append]; omega
      have HFL := Lib.hid hfl
      have e9 : gp ≠ w8.heap.size := by omega
      clear hsK ha haL hk hlt rd rd8 hrs hwb hD hbl hva8 hvb8 hmt8 he8 hfl
      go_wp2_with fail
      have hq : Below w9.heap.size w9 (w9.alloc (.cells #[.slice A na c, .slice A2 nb c2] 27)) := (by repeat (first | with_reducible exact Below.refl _ _ | with_reducible assumption | refine Below.drew ?_ | refine below_drewN ?_ | refine Below.alloc ?_ (by first | omega | (simp; done) | (simp; omega)) _ | refine below_setRow ?_ (by omega) _ | refine Below.setCell ?_ (by first | omega | (simp; done) | (simp; omega)) _))
      refine (meterSum_any gp 0 _ _ [a, b] _ (hmL.step hq) (by intro b; simp) (BsL.lit2 _ (by simp) hvaL hvbL) HFL.out (heL.step hq) (by omega) (by omega)).mono ?_
      rintro e w10 ⟨rfl, -, hu⟩
      rw [HKD.out]
      replace R9 := (R9.step hq).upd hu (Ne.symm e9)
      replace HB := Upd.below (HB.trans (hq.mono HB.size)) hu (by omega) (by have := HB.size; simp; omega)
      have hr10 := R9.lt
      clear hvaL hvbL hmL heL hq hu
      go_wp2_with fail
      have R13 : RowIs (w10.alloc (.cells (u8s D) 33)) w10.heap.size (u8s D) := RowIs.new _ _ _
      have HB13 := HB.alloc (by have := HB.size; omega) (.cells (u8s D) 33)
      have R9' := R9.alloc (.cells (u8s D) 33)
      clear R9 HB
      go_loopw [14] (fun i wr => ∃ j : Nat, j ≤ 8 ∧ i = .int .i64 j ∧ RowIs wr w8.heap.size (u32s sK) ∧ RowIs wr w10.heap.size (u8s D) ∧ Below w.heap.size w wr) (fun i _ => 8 - (intOf i).toNat)
      case atStart => exact ⟨0, by omega, rfl, R9', R13, HB13⟩
      case round =>
        clear R9' R13 HB13
        obtain ⟨j, hj, rfl, R9, R13, HB⟩ := hrel
        by_cases hj8 : j < 8
        · obtain ⟨x, hx⟩ : ∃ x : Nat, (4 : Int) * j = x := ⟨4 * j, by omega⟩
          obtain ⟨y, hy⟩ : ∃ y : Nat, (x : Int) + 4 = y := ⟨x + 4, by omega⟩
          have hj0 : (0 : Int) ≤ j := by omega
          have hj1 : (j : Int) < 8 := by omega
          have hx0 : (0 : Int) ≤ x := by omega
          have hxy : (x : Int) ≤ y := by omega
          have hy32 : (y : Int) ≤ 32 := by omega
          have hx32 : (x : Int) ≤ (32 : Int) := by omega
          have c9 := R9.c32 j (by rw [HSL.out]; exact hj8)
          have hwb := HWB.out j hj8
          obtain ⟨X, hX⟩ : ∃ X, X = at32 sK j := ⟨_, rfl⟩
          rw [← hX] at c9 hwb
          have hcx : IntKind.u64.wrap (n32 X) = n32 X := by
            have := n32_ge X; have := n32_lt X; rw [wrap_u64]; omega
          clear hX
          have hsk := slice_key w10.heap.size x y (by omega) (by omega)
          rw [show 4 * j = x by omega] at hwb
          go_wp2_with fail
          refine wp_region_lexS [] [9] (Two ⟨w8.heap.size, j, none⟩ ⟨w8.heap.size, j, none⟩ (.int .u32 (n32 X)) (.int .u32 (n32 X))) (by kernel_rfl) (by decide +kernel) ⟨by go_simp, by go_simp⟩ (fun hS => ?_)
          (go_wp2_with (first | (refine wpLexS_nil ?_) | (refine wpLexS_pure rfl (fun _ _ => ?_); go_simp; refine ⟨_, fun w9 hw9 => (by have s1 := hw9.1; have s2 := hw9.2; go_simp; rfl), ?_⟩) | (refine wpLexS_pure0 rfl (fun _ _ => ?_); go_simp; try go_bits) | (refine wpLexS_read rfl (fun _ _ => ?_); go_simp; try go_bits) | (refine wpLexS_loud rfl (fun KL hKL => ?_))))
          rw [hy]
          refine ⟨_, fun w' => by rw [hsk w']; rfl, ?_⟩
          (go_wp2_with (first | (refine wpLexS_nil ?_) | (refine wpLexS_pure rfl (fun _ _ => ?_); go_simp; refine ⟨_, fun w9 hw9 => (by have s1 := hw9.1; have s2 := hw9.2; go_simp; rfl), ?_⟩) | (refine wpLexS_pure0 rfl (fun _ _ => ?_); go_simp; try go_bits) | (refine wpLexS_read rfl (fun _ _ => ?_); go_simp; try go_bits) | (refine wpLexS_loud rfl (fun KL hKL => ?_))))
          refine (refOfHigh_bs (Bs.part R13.drew x 4 (32 - x) (by rw [HDL.out]; omega) (by omega) (by omega))).mono ?_
          rintro e w11 ⟨rfl, rfl⟩
          rw [hwb]
          (go_wp2_with (first | (refine wpLexS_nil ?_) | (refine wpLexS_pure rfl (fun _ _ => ?_); go_simp; refine ⟨_, fun w9 hw9 => (by have s1 := hw9.1; have s2 := hw9.2; go_simp; rfl), ?_⟩) | (refine wpLexS_pure0 rfl (fun _ _ => ?_); go_simp; try go_bits) | (refine wpLexS_read rfl (fun _ _ => ?_); go_simp; try go_bits) | (refine wpLexS_loud rfl (fun KL hKL => ?_))))
          refine hKL _ _ ⟨by go_simp, by go_simp⟩ (fun hS => ?_)
          (go_wp2_with (first | (refine wpLexS_nil ?_) | (refine wpLexS_pure rfl (fun _ _ => ?_); go_simp; refine ⟨_, fun w9 hw9 => (by have s1 := hw9.1; have s2 := hw9.2; go_simp; rfl), ?_⟩) | (refine wpLexS_pure0 rfl (fun _ _ => ?_); go_simp; try go_bits) | (refine wpLexS_read rfl (fun _ _ => ?_); go_simp; try go_bits) | (refine wpLexS_loud rfl (fun KL hKL => ?_))))
          go_wp2_with fail
          refine ⟨⟨j + 1, by omega, by go_num, R9.drew, R13.drew, HB.drew⟩, by simp [intOf]; omega⟩
        · have ej : j = 8 := by omega
          subst ej
          rw [show ((8 : Nat) : Int) = 8 from rfl]
          go_wp2_with fail
          go_ret
          exact ⟨rfl, HB⟩
theorem walk_ShaFolds (A : Option Addr) (c : Nat) (a : List UInt8) (B : Option Addr) (d : Nat) (b : List UInt8) (w : World) (he : ShaEnv w) (hc : a.length ≤ c) (hr : Rd8 w w.heap.size A a) (hd : b.length ≤ d) (hs : Rd8 w w.heap.size B b) :
    Calls Tryd.prog 6 #[.slice A a.length c, .slice B b.length d] w (TrueRes' w) := by
  by_cases h1 : 300 < a.length
  · have h1' : (300 : Int) < a.length := by omega
    go_enter Tryd.func6, Tryd.ntmps6
    go_wp2_with (go_at_call 19; refine (awake_any _ he).mono ?_; rintro e w1 ⟨rfl, hb1⟩)
    go_ret
    exact ⟨rfl, hb1⟩
  by_cases h2 : 300 < b.length
  · have h1' : ¬ (300 : Int) < a.length := by omega
    have h2' : (300 : Int) < b.length := by omega
    go_enter Tryd.func6, Tryd.ntmps6
    go_wp2_with (go_at_call 19; refine (awake_any _ he).mono ?_; rintro e w1 ⟨rfl, hb1⟩)
    go_ret
    exact ⟨rfl, hb1⟩
  exact folds_any _ _ a b w he (Bs.of hc (by omega) hr) (Bs.of hd (by omega) hs) h1 h2
end Go.Proofs.YtopmdbmnlflpgaaDoor
