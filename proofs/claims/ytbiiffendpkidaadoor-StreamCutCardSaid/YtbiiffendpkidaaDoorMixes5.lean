/- StreamTwice, StreamFurther, StreamCut: the walks. -/
import Derived.Test.YtbiiffendpkidaaDoorMixes4
namespace Go.Proofs.YtbiiffendpkidaaDoor
open Go.RowKit
attribute [local go_sem ↓] exec_load_key exec_load_b12
attribute [local go_sem] load_key load_b12
set_option maxRecDepth 100000 in
set_option maxHeartbeats 1600000 in
theorem walk_StreamTwice (key : List UInt8) (ctr : UInt32) (nonce : List UInt8) (A : Option Addr) (c : Nat) (t : List UInt8) (w : World) (hs : RowIs w 1 (u32s startL)) (hq : RowIs w 0 qCells)
    (hkey : key.length = 32) (hnon : nonce.length = 12) (hc : t.length ≤ c) (hr : Rd8 w w.heap.size A t) :
    Calls Tryd.prog 6 #[.agg (u8s key), .int .u32 (n32 ctr), .agg (u8s nonce), .slice A t.length c] w (TrueRes w) := by
  have HT : Hid (t.length ≤ 400 → Bs w (.slice A t.length c) t) := Lib.hid (fun h => Bs.of hc (by omega) hr)
  have hB0 := SEnv.begin (key := key) (nonce := nonce) hs hq (Bs.nil w)
  have HE : Hid (t.length ≤ 400 → SEnv key nonce w (.slice A t.length c) t ((w.alloc (.cells (u8s key) 26)).alloc (.cells (u8s nonce) 27))) := Lib.hid (fun h => SEnv.begin hs hq (HT.out h))
  have m1 : ∀ (cc : UInt32) (vt : Value) (t : List UInt8), t.length ≤ 400 → ∀ (w : World), RowIs w 1 (u32s startL) → RowIs w 0 qCells → Bs w vt t → Calls Tryd.prog 14 #[.agg (u8s key), .int .u32 (n32 cc), .agg (u8s nonce), vt] w (MixRes w (mixB key cc nonce t)) :=
    fun cc vt t h w h1 h2 h3 => mix_any key nonce cc hkey hnon _ t w h1 h2 h3 (by omega)
  have M1 := Lib.hid m1
  obtain ⟨nt, hnt⟩ : ∃ n, t.length = n := ⟨_, rfl⟩
  rw [hnt] at HE ⊢
  have HNT := Lib.hid hnt
  clear HT hs hq hc hr hnt m1
  obtain ⟨w0, hw0⟩ : ∃ w0, w0 = (w.alloc (.cells (u8s key) 26)).alloc (.cells (u8s nonce) 27) := ⟨_, rfl⟩
  rw [← hw0] at hB0 HE
  by_cases hsm : nt ≤ 400
  · have he := HE.out hsm
    have i1 : ¬ (400 : Int) < nt := by omega
    obtain ⟨M, hM⟩ : ∃ M, M = mixB key ctr nonce t := ⟨_, rfl⟩
    have k1 := M1.out ctr (.slice A nt c) t (by rw [HNT.out]; exact hsm)
    have hMl : M.length = nt := by rw [hM, mixB_length, HNT.out]
    have k2 : ∀ vt (w : World), RowIs w 1 (u32s startL) → RowIs w 0 qCells → Bs w vt M → Calls Tryd.prog 14 #[.agg (u8s key), .int .u32 (n32 ctr), .agg (u8s nonce), vt] w (MixRes w t) := fun vt w h1 h2 h3 => by
      have := M1.out ctr vt M (by omega) w h1 h2 h3
      rwa [hM, mix_twice] at this
    rw [← hM] at k1
    have K1 := Lib.hid k1
    have K2 := Lib.hid k2
    have HML := Lib.hid hMl
    clear hB0 HE hM k1 k2 hMl M1
    go_enter Tryd.func6, Tryd.ntmps6
    go_wp2_with fail
    rw [← hw0]
    clear hw0
    refine (awake_any _ he.start he.quarters).mono ?_
    rintro e w1 ⟨rfl, hb1⟩
    replace he := he.step hb1
    clear hb1
    have f1 := he.key.has; have f2 := he.key.row; have f3 := he.nonce.has; have f4 := he.nonce.row
    go_wp2_with fail
    refine (K1.out _ he.start he.quarters he.txt).mono ?_
    rintro e w2 ⟨v2, rfl, hv2, hb2⟩
    replace he := he.step hb2
    clear hb2 f1 f2 f3 f4
    have f1 := he.key.has; have f2 := he.key.row; have f3 := he.nonce.has; have f4 := he.nonce.row
    obtain ⟨A2, c2, rfl, -, -, -⟩ := id hv2
    rw [HML.out] at hv2 ⊢
    go_wp2_with fail
    refine (K2.out _ _ he.start he.quarters hv2).mono ?_
    rintro e w3 ⟨v3, rfl, hv3, hb3⟩
    replace he := he.step hb3
    clear hb3 f1 f2 f3 f4
    go_wp2_with fail
    refine (refSame_bs hv3 he.txt).mono ?_
    rintro e w4 ⟨rfl, hb4⟩
    replace he := he.step hb4
    go_wp2_with fail
    go_ret
    exact ⟨by simp, he.bel⟩
  · have i1 : (400 : Int) < nt := by omega
    have he := hB0
    clear HE hB0 M1
    go_enter Tryd.func6, Tryd.ntmps6
    go_wp2_with fail
    rw [← hw0]
    clear hw0
    refine (awake_any _ he.start he.quarters).mono ?_
    rintro e w1 ⟨rfl, hb1⟩
    replace he := he.step hb1
    clear hb1
    go_wp2_with fail
    go_ret
    exact ⟨rfl, he.bel⟩
set_option maxRecDepth 100000 in
set_option maxHeartbeats 1600000 in
theorem walk_StreamFurther (key : List UInt8) (ctr : UInt32) (nonce : List UInt8) (A : Option Addr) (c : Nat) (t : List UInt8) (w : World) (hs : RowIs w 1 (u32s startL)) (hq : RowIs w 0 qCells)
    (hkey : key.length = 32) (hnon : nonce.length = 12) (hc : t.length ≤ c) (hr : Rd8 w w.heap.size A t) :
    Calls Tryd.prog 7 #[.agg (u8s key), .int .u32 (n32 ctr), .agg (u8s nonce), .slice A t.length c] w (TrueRes w) := by
  have HT : Hid (t.length ≤ 400 → Bs w (.slice A t.length c) t) := Lib.hid (fun h => Bs.of hc (by omega) hr)
  have hB0 := SEnv.begin (key := key) (nonce := nonce) hs hq (Bs.nil w)
  have HE : Hid (t.length ≤ 400 → SEnv key nonce w (.slice A t.length c) t ((w.alloc (.cells (u8s key) 26)).alloc (.cells (u8s nonce) 27))) := Lib.hid (fun h => SEnv.begin hs hq (HT.out h))
  have m1 : ∀ (cc : UInt32) (vt : Value) (t : List UInt8), t.length ≤ 400 → ∀ (w : World), RowIs w 1 (u32s startL) → RowIs w 0 qCells → Bs w vt t → Calls Tryd.prog 14 #[.agg (u8s key), .int .u32 (n32 cc), .agg (u8s nonce), vt] w (MixRes w (mixB key cc nonce t)) :=
    fun cc vt t h w h1 h2 h3 => mix_any key nonce cc hkey hnon _ t w h1 h2 h3 (by omega)
  have M1 := Lib.hid m1
  obtain ⟨nt, hnt⟩ : ∃ n, t.length = n := ⟨_, rfl⟩
  rw [hnt] at HE ⊢
  have HNT := Lib.hid hnt
  clear HT hs hq hc hr hnt m1
  obtain ⟨w0, hw0⟩ : ∃ w0, w0 = (w.alloc (.cells (u8s key) 26)).alloc (.cells (u8s nonce) 27) := ⟨_, rfl⟩
  rw [← hw0] at hB0 HE
  by_cases hsm : 64 ≤ nt ∧ nt ≤ 400
  · have he := HE.out hsm.2
    have i0 : ¬ (nt : Int) < 64 := by omega
    have i1 : ¬ (400 : Int) < nt := by omega
    obtain ⟨M, hM⟩ : ∃ M, M = mixB key ctr nonce t := ⟨_, rfl⟩
    have k1 := M1.out ctr (.slice A nt c) t (by rw [HNT.out]; exact hsm.2)
    have hMl : M.length = nt := by rw [hM, mixB_length, HNT.out]
    have k2 : ∀ vt (w : World), RowIs w 1 (u32s startL) → RowIs w 0 qCells → Bs w vt (t.drop 64) → Calls Tryd.prog 14 #[.agg (u8s key), .int .u32 (n32 (cAt ctr 1)), .agg (u8s nonce), vt] w (MixRes w (M.drop 64)) := fun vt w h1 h2 h3 => by
      have := M1.out (cAt ctr 1) vt (t.drop 64) (by rw [List.length_drop, HNT.out]; omega) w h1 h2 h3
      rwa [← mix_further, ← hM] at this
    rw [← hM] at k1
    have K1 := Lib.hid k1
    have K2 := Lib.hid k2
    have HML := Lib.hid hMl
    have hcw := cAt_wrap ctr 1 (by omega)
    rw [show ((1 : Nat) : Int) = 1 from rfl] at hcw
    have hfrom : ∀ (A : Option Addr) (c : Nat) w, (Instr.sliceAt 35 (.slice A nt c) (some (.int .i64 64)) none none).run Tryd.prog w = .ok (.slice (subA A c 64) (nt - 64) (c - 64)) w := fun A c w => run_from Tryd.underlying35 (by kernel_rfl) A nt c 64 hsm.1 w
    clear hB0 HE hM k1 k2 hMl M1
    go_enter Tryd.func7, Tryd.ntmps7
    go_wp2_with fail
    rw [← hw0]
    clear hw0
    refine (awake_any _ he.start he.quarters).mono ?_
    rintro e w1 ⟨rfl, hb1⟩
    replace he := he.step hb1
    clear hb1
    have f1 := he.key.has; have f2 := he.key.row; have f3 := he.nonce.has; have f4 := he.nonce.row
    go_wp2_with fail
    refine (K1.out _ he.start he.quarters he.txt).mono ?_
    rintro e w2 ⟨v2, rfl, hv2, hb2⟩
    replace he := he.step hb2
    clear hb2 f1 f2 f3 f4
    have f1 := he.key.has; have f2 := he.key.row; have f3 := he.nonce.has; have f4 := he.nonce.row
    obtain ⟨A2, c2, rfl, -, -, -⟩ := id hv2
    rw [HML.out] at hv2 ⊢
    have hd : Below w2.heap.size w2 w2.drew := (by repeat (first | with_reducible exact Below.refl _ _ | with_reducible assumption | refine Below.drew ?_ | refine below_drewN ?_ | refine Below.alloc ?_ (by first | omega | (simp; done) | (simp; omega)) _ | refine below_setRow ?_ (by omega) _ | refine Below.setCell ?_ (by first | omega | (simp; done) | (simp; omega)) _))
    have htd := (he.txt.drop 64 hsm.1).step hd
    go_wp2_with fail
    go_wp2_with (first | (refine wp_region_lex [] (by kernel_rfl) (by decide +kernel) ?_) | (refine wpLex_nil ?_) | (refine wpLex_pure rfl (fun _ _ => ?_); go_simp; try go_bits) | (refine wpLex_read rfl (fun _ _ => ?_); go_simp; try go_bits) | (refine wpLex_loud rfl (fun _ _ => ?_)))
    refine (K2.out _ _ (he.step hd).start (he.step hd).quarters htd).mono ?_
    rintro e w3 ⟨v3, rfl, hv3, hb3⟩
    replace he := (he.step hd).step hb3
    replace hv2 := ((hv2.step hd).step hb3).drop 64 hsm.1
    clear hb3 f1 f2 f3 f4 hd htd
    go_wp2_with (first | (refine wp_region_lex [] (by kernel_rfl) (by decide +kernel) ?_) | (refine wpLex_nil ?_) | (refine wpLex_pure rfl (fun _ _ => ?_); go_simp; try go_bits) | (refine wpLex_read rfl (fun _ _ => ?_); go_simp; try go_bits) | (refine wpLex_loud rfl (fun _ _ => ?_)))
    go_wp2_with fail
    refine (refSame_bs hv2 hv3).mono ?_
    rintro e w4 ⟨rfl, hb4⟩
    replace he := he.step hb4
    go_wp2_with fail
    go_ret
    exact ⟨by simp, he.bel⟩
  · have he := hB0
    clear HE hB0 M1
    by_cases i0 : (nt : Int) < 64
    · skip
      go_enter Tryd.func7, Tryd.ntmps7
      go_wp2_with fail
      rw [← hw0]
      clear hw0
      refine (awake_any _ he.start he.quarters).mono ?_
      rintro e w1 ⟨rfl, hb1⟩
      replace he := he.step hb1
      clear hb1
      go_wp2_with fail
      go_ret
      exact ⟨rfl, he.bel⟩
    · have i1 : (400 : Int) < nt := by omega
      go_enter Tryd.func7, Tryd.ntmps7
      go_wp2_with fail
      rw [← hw0]
      clear hw0
      refine (awake_any _ he.start he.quarters).mono ?_
      rintro e w1 ⟨rfl, hb1⟩
      replace he := he.step hb1
      clear hb1
      go_wp2_with fail
      go_ret
      exact ⟨rfl, he.bel⟩
set_option maxRecDepth 100000 in
set_option maxHeartbeats 1600000 in
theorem walk_StreamCut (key : List UInt8) (ctr : UInt32) (nonce : List UInt8) (A : Option Addr) (c : Nat) (t : List UInt8) (lf : Int) (w : World) (hs : RowIs w 1 (u32s startL)) (hq : RowIs w 0 qCells)
    (hkey : key.length = 32) (hnon : nonce.length = 12) (hc : t.length ≤ c) (hr : Rd8 w w.heap.size A t) (_ : -9223372036854775808 ≤ lf) (_ : lf ≤ 9223372036854775807) :
    Calls Tryd.prog 8 #[.agg (u8s key), .int .u32 (n32 ctr), .agg (u8s nonce), .slice A t.length c, .int .i64 lf] w (TrueRes w) := by
  have HT : Hid (t.length ≤ 400 → Bs w (.slice A t.length c) t) := Lib.hid (fun h => Bs.of hc (by omega) hr)
  have hB0 := SEnv.begin (key := key) (nonce := nonce) hs hq (Bs.nil w)
  have HE : Hid (t.length ≤ 400 → SEnv key nonce w (.slice A t.length c) t ((w.alloc (.cells (u8s key) 26)).alloc (.cells (u8s nonce) 27))) := Lib.hid (fun h => SEnv.begin hs hq (HT.out h))
  have m1 : ∀ (cc : UInt32) (vt : Value) (t : List UInt8), t.length ≤ 400 → ∀ (w : World), RowIs w 1 (u32s startL) → RowIs w 0 qCells → Bs w vt t → Calls Tryd.prog 14 #[.agg (u8s key), .int .u32 (n32 cc), .agg (u8s nonce), vt] w (MixRes w (mixB key cc nonce t)) :=
    fun cc vt t h w h1 h2 h3 => mix_any key nonce cc hkey hnon _ t w h1 h2 h3 (by omega)
  have M1 := Lib.hid m1
  obtain ⟨nt, hnt⟩ : ∃ n, t.length = n := ⟨_, rfl⟩
  rw [hnt] at HE ⊢
  have HNT := Lib.hid hnt
  clear HT hs hq hc hr hnt m1
  obtain ⟨w0, hw0⟩ : ∃ w0, w0 = (w.alloc (.cells (u8s key) 26)).alloc (.cells (u8s nonce) 27) := ⟨_, rfl⟩
  rw [← hw0] at hB0 HE
  by_cases hsm : nt ≤ 400 ∧ 0 ≤ lf ∧ lf ≤ nt
  · have he := HE.out hsm.1
    obtain ⟨left, rfl⟩ : ∃ n : Nat, lf = n := ⟨lf.toNat, by omega⟩
    have i1 : ¬ (400 : Int) < nt := by omega
    have i2 : ¬ (left : Int) < 0 := by omega
    have i3 : ¬ (nt : Int) < (left : Int) := by omega
    have hln : left ≤ nt := by omega
    obtain ⟨M, hM⟩ : ∃ M, M = mixB key ctr nonce t := ⟨_, rfl⟩
    have k1 := M1.out ctr (.slice A nt c) t (by rw [HNT.out]; exact hsm.1)
    have hMl : M.length = nt := by rw [hM, mixB_length, HNT.out]
    have k2 : ∀ vt (w : World), RowIs w 1 (u32s startL) → RowIs w 0 qCells → Bs w vt (t.take left) → Calls Tryd.prog 14 #[.agg (u8s key), .int .u32 (n32 ctr), .agg (u8s nonce), vt] w (MixRes w (M.take left)) := fun vt w h1 h2 h3 => by
      have := M1.out ctr vt (t.take left) (by rw [List.length_take, HNT.out]; omega) w h1 h2 h3
      rwa [← mix_cut _ _ _ _ _ (by rw [HNT.out]; exact hln), ← hM] at this
    rw [← hM] at k1
    have K1 := Lib.hid k1
    have K2 := Lib.hid k2
    have HML := Lib.hid hMl
    clear hB0 HE hM k1 k2 hMl M1
    have hlc : left ≤ c := by have := he.txt.rd.2.1; have := he.txt.rd.1; omega
    go_enter Tryd.func8, Tryd.ntmps8
    go_wp2_with fail
    rw [← hw0]
    clear hw0
    refine (awake_any _ he.start he.quarters).mono ?_
    rintro e w1 ⟨rfl, hb1⟩
    replace he := he.step hb1
    clear hb1
    have f1 := he.key.has; have f2 := he.key.row; have f3 := he.nonce.has; have f4 := he.nonce.row
    go_wp2_with fail
    refine (K1.out _ he.start he.quarters he.txt).mono ?_
    rintro e w2 ⟨v2, rfl, hv2, hb2⟩
    replace he := he.step hb2
    clear hb2 f1 f2 f3 f4
    have f1 := he.key.has; have f2 := he.key.row; have f3 := he.nonce.has; have f4 := he.nonce.row
    obtain ⟨A2, c2, rfl, -, -, -⟩ := id hv2
    rw [HML.out] at hv2 ⊢
    have hlc2 : left ≤ c2 := by have := hv2.rd.2.1; have := hv2.rd.1; omega
    have hd : Below w2.heap.size w2 w2.drew := (by repeat (first | with_reducible exact Below.refl _ _ | with_reducible assumption | refine Below.drew ?_ | refine below_drewN ?_ | refine Below.alloc ?_ (by first | omega | (simp; done) | (simp; omega)) _ | refine below_setRow ?_ (by omega) _ | refine Below.setCell ?_ (by first | omega | (simp; done) | (simp; omega)) _))
    have htd := (he.txt.take left hln).step hd
    go_wp2_with fail
    go_wp2_with (first | (refine wp_region_lex [] (by kernel_rfl) (by decide +kernel) ?_) | (refine wpLex_nil ?_) | (refine wpLex_pure rfl (fun _ _ => ?_); go_simp; try go_bits) | (refine wpLex_read rfl (fun _ _ => ?_); go_simp; try go_bits) | (refine wpLex_loud rfl (fun _ _ => ?_)))
    refine (K2.out _ _ (he.step hd).start (he.step hd).quarters htd).mono ?_
    rintro e w3 ⟨v3, rfl, hv3, hb3⟩
    replace he := (he.step hd).step hb3
    replace hv2 := ((hv2.step hd).step hb3).take left hln
    clear hb3 f1 f2 f3 f4 hd htd
    go_wp2_with (first | (refine wp_region_lex [] (by kernel_rfl) (by decide +kernel) ?_) | (refine wpLex_nil ?_) | (refine wpLex_pure rfl (fun _ _ => ?_); go_simp; try go_bits) | (refine wpLex_read rfl (fun _ _ => ?_); go_simp; try go_bits) | (refine wpLex_loud rfl (fun _ _ => ?_)))
    go_wp2_with fail
    refine (refSame_bs hv2 hv3).mono ?_
    rintro e w4 ⟨rfl, hb4⟩
    replace he := he.step hb4
    go_wp2_with fail
    go_ret
    exact ⟨by simp, he.bel⟩
  · have he := hB0
    clear HE hB0 M1
    by_cases i1 : (400 : Int) < nt
    · skip
      go_enter Tryd.func8, Tryd.ntmps8
      go_wp2_with fail
      rw [← hw0]
      clear hw0
      refine (awake_any _ he.start he.quarters).mono ?_
      rintro e w1 ⟨rfl, hb1⟩
      replace he := he.step hb1
      clear hb1
      go_wp2_with fail
      go_ret
      exact ⟨rfl, he.bel⟩
    · by_cases i2 : lf < 0
      · skip
        go_enter Tryd.func8, Tryd.ntmps8
        go_wp2_with fail
        rw [← hw0]
        clear hw0
        refine (awake_any _ he.start he.quarters).mono ?_
        rintro e w1 ⟨rfl, hb1⟩
        replace he := he.step hb1
        clear hb1
        go_wp2_with fail
        go_ret
        exact ⟨rfl, he.bel⟩
      · have i3 : (nt : Int) < lf := by omega
        go_enter Tryd.func8, Tryd.ntmps8
        go_wp2_with fail
        rw [← hw0]
        clear hw0
        refine (awake_any _ he.start he.quarters).mono ?_
        rintro e w1 ⟨rfl, hb1⟩
        replace he := he.step hb1
        clear hb1
        go_wp2_with fail
        go_ret
        exact ⟨rfl, he.bel⟩
end Go.Proofs.YtbiiffendpkidaaDoor
