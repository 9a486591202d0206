/- Layer 4: the document's Mix; and texts that are too long. -/
import Derived.Test.YtbiiffendpkidaaDoorMixM
import Derived.Test.YtbiiffendpkidaaDoorRefBlock
namespace Go.Proofs.YtbiiffendpkidaaDoor
open Go.RowKit
attribute [local go_sem ↓] exec_load_key exec_load_b12 exec_load_b64 exec_store_b64
attribute [local go_sem] load_key load_b12 load_b64 store_b64 z8_length zero64
theorem RowIs.cb {w : World} {g : Nat} {l : List UInt8} (h : RowIs w g (u8s l)) (j : Nat) (hj : j < l.length) : w.cell? ⟨g, j, none⟩ = some (.int .u8 (n8 (at8 l j))) := by
  obtain ⟨t, ht⟩ := h.row.heap
  rw [h.has] at ht
  rw [cell_of_row w g j _ t (0, 0) ht]
  exact u8s_get l j hj
theorem RowIs.grown {w w' : World} {g : Nat} {cs : Array Value} {row : Option Nat} (h : RowIs w g cs) (hg : w.grownBy w' row) (hr : row ≠ some g) : RowIs w' g cs := by
  have e := hg.block g h.lt (fun e => hr e.symm)
  exact ⟨by unfold IsRow; rw [e]; exact h.row, by unfold rowOf; rw [e]; exact h.has⟩
theorem Own8.own_lt {T : TypeId} {w : World} {base : Nat} {v : Value} {l : List UInt8} (h : Own8 T w base v l) {g : Nat} (hg : v.ownBlock = some g) : base ≤ g ∧ g < w.heap.size := by
  rcases h.2 with ⟨hn, _⟩ | ⟨g', cap, cur, hv, hb, hh, _⟩
  · rw [hn] at hg; simp [Value.ownBlock] at hg
  · rw [hv] at hg
    simp [Value.ownBlock] at hg
    subst hg
    exact ⟨hb, (Array.getElem?_eq_some_iff.1 hh).1⟩
def MixErr (w : World) (e : Ending) (w' : World) : Prop := e = .returned (.tuple #[.slice none 0 0, .int .i64 2]) ∧ Below w.heap.size w w'
theorem mix_long (key nonce : List UInt8) (ctr : UInt32) (A : Option Addr) (c nt : Nat) (w : World) (hl : 4000 < nt) :
    Calls Tryd.prog 14 #[.agg (u8s key), .int .u32 (n32 ctr), .agg (u8s nonce), .slice A nt c] w (MixErr w) := by
  have h4 : (4000 : Int) < nt := by omega
  go_enter Tryd.func14, Tryd.ntmps14
  go_wp2_with fail
  refine bodyPost_ret (results_tmp2 rfl _ _ _) rfl ?_
  exact ⟨rfl, (by repeat (first | with_reducible exact Below.refl _ _ | with_reducible assumption | refine Below.drew ?_ | refine below_drewN ?_ | refine Below.alloc ?_ (by first | omega | (simp; done) | (simp; omega)) _ | refine below_setRow ?_ (by omega) _ | refine Below.setCell ?_ (by first | omega | (simp; done) | (simp; omega)) _))⟩
theorem refMix_long (key nonce : List UInt8) (ctr : UInt32) (A : Option Addr) (c nt : Nat) (w : World) (hl : 4000 < nt) :
    Calls Tryd.prog 15 #[.agg (u8s key), .int .u32 (n32 ctr), .agg (u8s nonce), .slice A nt c] w (MixErr w) := by
  have h4 : (4000 : Int) < nt := by omega
  go_enter Tryd.func15, Tryd.ntmps15
  go_wp2_with fail
  refine bodyPost_ret (results_tmp2 rfl _ _ _) rfl ?_
  exact ⟨rfl, (by repeat (first | with_reducible exact Below.refl _ _ | with_reducible assumption | refine Below.drew ?_ | refine below_drewN ?_ | refine Below.alloc ?_ (by first | omega | (simp; done) | (simp; omega)) _ | refine below_setRow ?_ (by omega) _ | refine Below.setCell ?_ (by first | omega | (simp; done) | (simp; omega)) _))⟩
theorem cAt_wrap (ctr : UInt32) (k : Nat) (hk : k < 4294967296) : IntKind.u32.wrap (n32 ctr + (k : Int)) = n32 (cAt ctr k) := by
  have e : (k : Int) = n32 (UInt32.ofNat k) := by rw [n32_def, UInt32.toNat_ofNat']; omega
  unfold cAt
  rw [e, u32_add]
theorem k_wrap (k : Nat) (hk : k < 4294967296) : IntKind.u32.wrap (k : Int) = (k : Int) := by rw [wrap_u32]; omega
set_option maxRecDepth 100000 in
set_option maxHeartbeats 1600000 in
theorem refMix_any (key nonce : List UInt8) (ctr : UInt32) (hkey : key.length = 32) (hnon : nonce.length = 12) (vt : Value) (t : List UInt8) (w : World) (ht : Bs w vt t) (hl : t.length ≤ 4000) :
    Calls Tryd.prog 15 #[.agg (u8s key), .int .u32 (n32 ctr), .agg (u8s nonce), vt] w (MixRes w (mixB key ctr nonce t)) := by
  obtain ⟨A, c, rfl, -, -, hr⟩ := id ht
  obtain ⟨nt, hnt⟩ : ∃ n, t.length = n := ⟨_, rfl⟩
  rw [hnt] at hl ht ⊢
  have h4 : ¬ (4000 : Int) < nt := by omega
  have hml := mixB_length key ctr nonce t
  have hma := mixB_at key ctr nonce t
  rw [hnt] at hml hma
  have HR : Hid (∀ j, j < nt → ∃ g o, A = some ⟨g, o, none⟩ ∧ g < w.heap.size ∧ w.cell? ⟨g, o + j, none⟩ = some (.int .u8 (n8 (at8 t j)))) := Lib.hid (by
    intro j hj
    obtain ⟨g, o, rfl, hg, hc⟩ := hr (by omega)
    exact ⟨g, o, rfl, hg, hc j (by omega)⟩)
  obtain ⟨M, hM⟩ : ∃ M, M = mixB key ctr nonce t := ⟨_, rfl⟩
  rw [← hM] at hml hma ⊢
  have HML := Lib.hid hml
  have HMA := Lib.hid hma
  have hblk : ∀ (k : Nat) (w : World), Calls Tryd.prog 13 #[.agg (u8s key), .int .u32 (n32 (cAt ctr k)), .agg (u8s nonce)] w (BytesRes w (blockB key (cAt ctr k) nonce)) := fun k w => refBlock_any key nonce (cAt ctr k) hkey hnon w
  have HBK := Lib.hid hblk
  clear hblk hml hma hM hr hnt
  have hw0 : Below w.heap.size w ((w.alloc (.cells (u8s key) 26)).alloc (.cells (u8s nonce) 27)) := (by repeat (first | with_reducible exact Below.refl _ _ | with_reducible assumption | refine Below.drew ?_ | refine below_drewN ?_ | refine Below.alloc ?_ (by first | omega | (simp; done) | (simp; omega)) _ | refine below_setRow ?_ (by omega) _ | refine Below.setCell ?_ (by first | omega | (simp; done) | (simp; omega)) _))
  have Rk : RowIs ((w.alloc (.cells (u8s key) 26)).alloc (.cells (u8s nonce) 27)) w.heap.size (u8s key) := (RowIs.new _ _ _).alloc _
  have Rn : RowIs ((w.alloc (.cells (u8s key) 26)).alloc (.cells (u8s nonce) 27)) (w.heap.size + 1) (u8s nonce) := RowIs.new' (by simp)
  go_enter Tryd.func15, Tryd.ntmps15
  go_wp2_with fail
  go_loopw [10, 11] (fun v i wr => ∃ k x : Nat, 64 * k = x ∧ x < nt + 64 ∧ i = .int .i64 x ∧ Own8 5 wr (w.heap.size + 2) v (M.take x) ∧ Below w.heap.size w wr ∧ RowIs wr w.heap.size (u8s key) ∧ RowIs wr (w.heap.size + 1) (u8s nonce)) (fun _ i _ => nt - (intOf i).toNat)
  case atStart => exact ⟨0, 0, rfl, by omega, rfl, by simpa using Own8.nil _ _ _, hw0, Rk, Rn⟩
  case round =>
    clear hw0 Rk Rn
    obtain ⟨k, x, hkx, hx, rfl, hown, hb, Rk, Rn⟩ := hrel
    have hsz := hb.size
    by_cases hlt : x < nt
    · have hx0 : (0 : Int) ≤ x := by omega
      have hdiv : (x : Int) / 64 = (k : Int) := by omega
      have hkw := k_wrap k (by omega)
      have hcw := cAt_wrap ctr k (by omega)
      have HKX := Lib.hid hkx
      clear hkx
      have Rkh := Rk.has; have Rkr := Rk.row; have Rkl := Rk.lt; have Rnh := Rn.has; have Rnr := Rn.row; have Rnl := Rn.lt
      go_wp2_with fail
      refine (HBK.out k _).mono ?_
      rintro e w1 ⟨rfl, hb1⟩
      obtain ⟨blk, hbe⟩ : ∃ b, b = blockB key (cAt ctr k) nonce := ⟨_, rfl⟩
      have hbl : blk.length = 64 := by rw [hbe, blockB_length]
      rw [← hbe]
      have HBE := Lib.hid hbe
      clear hbe hdiv hkw hcw
      clear Rkh Rkr Rkl Rnh Rnr Rnl
      replace Rk := Rk.step hb1
      replace Rn := Rn.step hb1
      replace hown := hown.step hb1
      replace hb := hb.trans (hb1.mono hb.size)
      have hs1 := hb.size
      clear hb1
      have hal : Below w1.heap.size w1 (w1.alloc (.cells (u8s blk) 31)) := (by repeat (first | with_reducible exact Below.refl _ _ | with_reducible assumption | refine Below.drew ?_ | refine below_drewN ?_ | refine Below.alloc ?_ (by first | omega | (simp; done) | (simp; omega)) _ | refine below_setRow ?_ (by omega) _ | refine Below.setCell ?_ (by first | omega | (simp; done) | (simp; omega)) _))
      have Rb := RowIs.new w1 (u8s blk) 31
      replace Rk := Rk.step hal
      replace Rn := Rn.step hal
      have hne : ∀ v, Own8 5 w1 (w.heap.size + 2) v (M.take x) → v.ownBlock ≠ some w1.heap.size := fun v h e => by have := (h.own_lt e).2; omega
      have hne1 := hne _ hown
      clear hne
      replace hown := hown.step hal
      replace hb := hb.trans (hal.mono hb.size)
      go_wp2_with fail
      go_loopw [10, 13] (fun v i wr => ∃ j y : Nat, x + j = y ∧ j ≤ 64 ∧ y ≤ nt ∧ i = .int .i64 j ∧ Own8 5 wr (w.heap.size + 2) v (M.take y) ∧ Below w.heap.size w wr ∧ RowIs wr w.heap.size (u8s key) ∧ RowIs wr (w.heap.size + 1) (u8s nonce) ∧ RowIs wr w1.heap.size (u8s blk) ∧ v.ownBlock ≠ some w1.heap.size) (fun _ i _ => 64 - (intOf i).toNat)
      case atStart => exact ⟨0, x, by omega, by omega, by omega, rfl, hown, hb, Rk, Rn, Rb, hne1⟩
      case round =>
        clear hown hb Rk Rn Rb hal hne1
        obtain ⟨j, y, hxy, hj, hy, rfl, hown, hb, Rk, Rn, Rb, hne1⟩ := hrel
        have hxi : (x : Int) + (j : Int) = (y : Int) := by omega
        have hsz := hb.size
        by_cases hj64 : j < 64
        · by_cases hyn : y < nt
          · obtain ⟨g, o, rfl, hg, hc⟩ := HR.out y hyn
            have hc1 := (hb.cell (p := ⟨g, o + y, none⟩) hg).trans hc
            have hc2 := Rb.cb j (by omega)
            have hj0 : (0 : Int) ≤ j := by omega
            have hj1 : (j : Int) < 64 := by omega
            have hy0 : (0 : Int) ≤ y := by omega
            have hy1 : (y : Int) < nt := by omega
            have HXY := Lib.hid hxy
            have hRbl := Rb.lt
            clear hc hxy
            go_wp2_with fail
            go_wp2_with (first | (refine wp_region_lex [] (by kernel_rfl) (by decide +kernel) ?_) | (refine wpLex_nil ?_) | (refine wpLex_pure rfl (fun _ _ => ?_); go_simp; try go_bits) | (refine wpLex_read rfl (fun _ _ => ?_); go_simp; try go_bits) | (refine wpLex_loud rfl (fun _ _ => ?_)) | (at_builtin; refine wpList_append8 Tryd.underlying35 Tryd.info8 (by rfl) (.tmp 43) (.tmp 54) (by rfl) (w.heap.size + 2) _ (M.take y) (by rfl) (hown.alloc _).drew wr.heap.size (at8 t y ^^^ at8 blk j) (by rfl) (by go_simp) (by simp; omega) (by simp; omega) ?_; intro g3 cap w3 hown1 hg3 hat3 hlt3))
            have hy' := HXY.out
            have ht1 : (M.take y).length = y := by rw [List.length_take]; have := HML.out; omega
            have hab := (Own8.alloc hown (.cells #[.int .u8 (n8 (at8 t y ^^^ at8 blk j))] 5)).drew
            refine ⟨⟨j + 1, y + 1, by omega, by omega, by omega, by go_num, ?_, below_append (hb.alloc (by omega) _).drew hab hg3 (by omega) (by simp; omega), ((Rk.alloc _).drew).grown hg3 (fun e => by have := (hown.own_lt e).1; omega), ((Rn.alloc _).drew).grown hg3 (fun e => by have := (hown.own_lt e).1; omega), ((Rb.alloc _).drew).grown hg3 hne1, ?_⟩, by simp [intOf]; omega⟩
            · rw [ht1] at hown1
              have hml := HML.out
              rw [show min y M.length = y by omega, take_succ8 _ _ (by omega), HMA.out y hyn, strmAt_def, show y / 64 = k by have := HKX.out; omega, show y % 64 = j by have := HKX.out; omega, ← HBE.out]
              exact hown1
            · intro e
              have e' : g3 = w1.heap.size := by simpa [Value.ownBlock] using e
              rcases hat3 with h | h
              · exact hne1 (by rw [h, e'])
              · simp at h; omega
          · go_wp2_with fail
            refine ⟨⟨k + 1, x + 64, by have := HKX.out; omega, by omega, by go_num, ?_, hb, Rk, Rn⟩, by simp [intOf]; omega⟩
            rw [List.take_of_length_le (by have := HML.out; omega)] at hown ⊢
            exact hown
        · have e64 : j = 64 := by omega
          subst e64
          rw [show ((64 : Nat) : Int) = 64 from rfl]
          go_wp2_with fail
          refine ⟨⟨k + 1, x + 64, by have := HKX.out; omega, by omega, by go_num, ?_, hb, Rk, Rn⟩, by simp [intOf]; omega⟩
          rw [show x + 64 = y by omega]; exact hown
    · rw [List.take_of_length_le (by have := HML.out; omega)] at hown
      go_wp2_with fail
      refine bodyPost_ret (results_tmp2 rfl _ _ _) rfl ?_
      exact ⟨_, rfl, hown.bs (by have := HML.out; omega), hb⟩
end Go.Proofs.YtbiiffendpkidaaDoor
