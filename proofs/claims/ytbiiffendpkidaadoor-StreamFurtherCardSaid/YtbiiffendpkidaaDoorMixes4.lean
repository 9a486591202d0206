/- StreamMixes, StreamTwice, StreamFurther, StreamCut: the walks. -/
import Derived.Test.YtbiiffendpkidaaDoorAwake4
import Derived.Test.YtbiiffendpkidaaDoorMixR
import Derived.Test.YtbiiffendpkidaaDoorArr
namespace Go.Proofs.YtbiiffendpkidaaDoor
open Go.RowKit
attribute [local go_sem ↓] exec_load_key exec_load_b12
attribute [local go_sem] load_key load_b12
/-- what these statements carry along -/
structure SEnv (key nonce : List UInt8) (w : World) (vt : Value) (t : List UInt8) (W : World) : Prop where
  key : RowIs W w.heap.size (u8s key)
  nonce : RowIs W (w.heap.size + 1) (u8s nonce)
  start : RowIs W 1 (u32s startL)
  quarters : RowIs W 0 qCells
  txt : Bs W vt t
  bel : Below w.heap.size w W
theorem SEnv.step {key nonce t : List UInt8} {w W W' : World} {vt : Value} (h : SEnv key nonce w vt t W) (hb : Below W.heap.size W W') : SEnv key nonce w vt t W' :=
  ⟨h.key.step hb, h.nonce.step hb, h.start.step hb, h.quarters.step hb, h.txt.step hb, h.bel.trans (hb.mono h.bel.size)⟩
theorem SEnv.begin {key nonce t : List UInt8} {w : World} {vt : Value} (hs : RowIs w 1 (u32s startL)) (hq : RowIs w 0 qCells) (ht : Bs w vt t) :
    SEnv key nonce w vt t ((w.alloc (.cells (u8s key) 26)).alloc (.cells (u8s nonce) 27)) := by
  have hb : Below w.heap.size w ((w.alloc (.cells (u8s key) 26)).alloc (.cells (u8s nonce) 27)) := (by repeat (first | with_reducible exact Below.refl _ _ | with_reducible assumption | refine Below.drew ?_ | refine below_drewN ?_ | refine Below.alloc ?_ (by first | omega | (simp; done) | (simp; omega)) _ | refine below_setRow ?_ (by omega) _ | refine Below.setCell ?_ (by first | omega | (simp; done) | (simp; omega)) _))
  exact ⟨(RowIs.new _ _ _).alloc _, RowIs.new' (by simp), hs.step hb, hq.step hb, ht.step hb, hb⟩
set_option maxRecDepth 100000 in
set_option maxHeartbeats 1600000 in
theorem walk_StreamMixes (key : List UInt8) (ctr : UInt32) (nonce : List UInt8) (A : Option Addr) (c : Nat) (t : List UInt8) (w : World) (hs : RowIs w 1 (u32s startL)) (hq : RowIs w 0 qCells)
    (hkey : key.length = 32) (hnon : nonce.length = 12) (hc : t.length ≤ c) (hr : Rd8 w w.heap.size A t) :
    Calls Tryd.prog 5 #[.agg (u8s key), .int .u32 (n32 ctr), .agg (u8s nonce), .slice A t.length c] w (TrueRes w) := by
  have HT : Hid (t.length ≤ 400 → Bs w (.slice A t.length c) t) := Lib.hid (fun h => Bs.of hc (by omega) hr)
  have hB0 := SEnv.begin (key := key) (nonce := nonce) hs hq (Bs.nil w)
  have HE : Hid (t.length ≤ 400 → SEnv key nonce w (.slice A t.length c) t ((w.alloc (.cells (u8s key) 26)).alloc (.cells (u8s nonce) 27))) := Lib.hid (fun h => SEnv.begin hs hq (HT.out h))
  obtain ⟨M, hM⟩ : ∃ M, M = mixB key ctr nonce t := ⟨_, rfl⟩
  have m1 : t.length ≤ 400 → ∀ (w : World), RowIs w 1 (u32s startL) → RowIs w 0 qCells → Bs w (.slice A t.length c) t → Calls Tryd.prog 14 #[.agg (u8s key), .int .u32 (n32 ctr), .agg (u8s nonce), .slice A t.length c] w (MixRes w M) :=
    fun h w h1 h2 h3 => by rw [hM]; exact mix_any key nonce ctr hkey hnon _ t w h1 h2 h3 (by omega)
  have m2 : t.length ≤ 400 → ∀ (w : World), Bs w (.slice A t.length c) t → Calls Tryd.prog 15 #[.agg (u8s key), .int .u32 (n32 ctr), .agg (u8s nonce), .slice A t.length c] w (MixRes w M) :=
    fun h w h3 => by rw [hM]; exact refMix_any key nonce ctr hkey hnon _ t w h3 (by omega)
  have M1 := Lib.hid m1
  have M2 := Lib.hid m2
  obtain ⟨nt, hnt⟩ : ∃ n, t.length = n := ⟨_, rfl⟩
  rw [hnt] at HE M1 M2 ⊢
  clear hM HT hs hq hc hr hnt m1 m2
  have w0e : ∃ w0, w0 = (w.alloc (.cells (u8s key) 26)).alloc (.cells (u8s nonce) 27) := ⟨_, rfl⟩
  obtain ⟨w0, hw0⟩ := w0e
  rw [← hw0] at hB0 HE
  by_cases h4 : nt ≤ 400
  · have he := HE.out h4
    have M1 := M1.out h4
    have M2 := M2.out h4
    have M1 := Lib.hid M1
    have M2 := Lib.hid M2
    have i1 : ¬ (400 : Int) < nt := by omega
    clear hB0 HE
    go_enter Tryd.func5, Tryd.ntmps5
    go_wp2_with fail
    rw [← hw0]
    clear hw0
    refine (awake_any _ he.start he.quarters).mono ?_
    rintro e w1 ⟨rfl, hb1⟩
    replace he := he.step hb1
    clear hb1
    have f1 := he.key.has; have f2 := he.key.row; have f3 := he.nonce.has; have f4 := he.nonce.row
    go_wp2_with fail
    refine (M1.out _ he.start he.quarters he.txt).mono ?_
    rintro e w2 ⟨v2, rfl, hv2, hb2⟩
    replace he := he.step hb2
    clear hb2 f1 f2 f3 f4
    have f1 := he.key.has; have f2 := he.key.row; have f3 := he.nonce.has; have f4 := he.nonce.row
    go_wp2_with fail
    refine (M2.out _ he.txt).mono ?_
    rintro e w3 ⟨v3, rfl, hv3, hb3⟩
    replace he := he.step hb3
    replace hv2 := hv2.step hb3
    clear hb3 f1 f2 f3 f4
    go_wp2_with fail
    refine (refSame_bs hv2 hv3).mono ?_
    rintro e w4 ⟨rfl, hb4⟩
    replace he := he.step hb4
    go_wp2_with fail
    go_ret
    exact ⟨by simp, he.bel⟩
  · have i1 : (400 : Int) < nt := by omega
    clear HE M1 M2
    have he := hB0
    clear hB0
    by_cases h40 : nt ≤ 4000
    · have i2 : (nt : Int) ≤ 4000 := by omega
      go_enter Tryd.func5, Tryd.ntmps5
      go_wp2_with fail
      rw [← hw0]
      clear hw0
      refine (awake_any _ he.start he.quarters).mono ?_
      rintro e w1 ⟨rfl, hb1⟩
      replace he := he.step hb1
      go_wp2_with fail
      go_ret
      exact ⟨rfl, he.bel⟩
    · have i2 : ¬ (nt : Int) ≤ 4000 := by omega
      go_enter Tryd.func5, Tryd.ntmps5
      go_wp2_with fail
      rw [← hw0]
      clear hw0
      refine (awake_any _ he.start he.quarters).mono ?_
      rintro e w1 ⟨rfl, hb1⟩
      replace he := he.step hb1
      clear hb1
      have f1 := he.key.has; have f2 := he.key.row; have f3 := he.nonce.has; have f4 := he.nonce.row
      go_wp2_with fail
      refine (mix_long key nonce ctr A c nt _ (by omega)).mono ?_
      rintro e w2 ⟨rfl, hb2⟩
      replace he := he.step hb2
      clear hb2 f1 f2 f3 f4
      have f1 := he.key.has; have f2 := he.key.row; have f3 := he.nonce.has; have f4 := he.nonce.row
      go_wp2_with fail
      refine (refMix_long key nonce ctr A c nt _ (by omega)).mono ?_
      rintro e w3 ⟨rfl, hb3⟩
      replace he := he.step hb3
      clear hb3 f1 f2 f3 f4
      go_wp2_with fail
      refine (refSame_bs (Bs.nil _) (Bs.nil _)).mono ?_
      rintro e w4 ⟨rfl, hb4⟩
      replace he := he.step hb4
      go_wp2_with fail
      go_ret
      exact ⟨by simp, he.bel⟩
end Go.Proofs.YtbiiffendpkidaaDoor
