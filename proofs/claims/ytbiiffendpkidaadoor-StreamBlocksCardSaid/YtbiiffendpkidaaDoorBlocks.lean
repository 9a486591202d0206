/- StreamBlocks: the walk. -/
import Derived.Test.YtbiiffendpkidaaDoorAwake4
import Derived.Test.YtbiiffendpkidaaDoorEq
import Derived.Test.YtbiiffendpkidaaDoorArr
import Derived.Laws.Bits128
import Derived.Test.YtbiiffendpkidaaDoorLexS
namespace Go.Proofs.YtbiiffendpkidaaDoor
open Go.RowKit
attribute [local go_sem ↓] exec_load_words exec_store_words exec_load_words' exec_store_words' exec_load_b64 exec_store_b64 exec_load_key exec_load_b12 exec_store_key
attribute [local go_sem] load_words store_words load_words' store_words' zero16z z32_length load_b64 store_b64 z8_length zero64 load_key load_b12 store_key
theorem i64_and15 (n : Int) : bits .and .i64 n 15 = n % 16 := by
  have h15 : (BitVec.ofInt 64 15).toNat = 2 ^ 4 - 1 := by decide
  have key : (BitVec.ofInt 64 n &&& BitVec.ofInt 64 15).toNat = (n % ((2 ^ 64 : Nat) : Int)).toNat % 2 ^ 4 := by
    rw [BitVec.toNat_and, BitVec.toNat_ofInt, h15, Nat.and_two_pow_sub_one_eq_mod]
  show IntKind.i64.wrap ((BitVec.ofInt 64 n &&& BitVec.ofInt 64 15).toNat : Nat) = n % 16
  rw [key, IntKind.wrap_i64]
  omega
theorem and15_any (n : Int) : ∃ k : Nat, bits .and .i64 n 15 = k ∧ k < 16 := ⟨(n % 16).toNat, by rw [i64_and15]; omega, by omega⟩
theorem eq_words (w : World) (l m : List UInt32) (hl : l.length = 16) (hm : m.length = 16) : (Op.equalIn 10000 24 (.agg (u32s l)) (.agg (u32s m))).run Tryd.prog w = .ok (decide (l = m)) w :=
  run_equal32 Tryd.underlying24 (by kernel_rfl) Tryd.underlying22 (by kernel_rfl) l m hl hm w
theorem eq_b64 (w : World) (l m : List UInt8) (hl : l.length = 64) (hm : m.length = 64) : (Op.equalIn 10000 31 (.agg (u8s l)) (.agg (u8s m))).run Tryd.prog w = .ok (decide (l = m)) w :=
  run_equal8 Tryd.underlying31 (by kernel_rfl) Tryd.underlying5 (by kernel_rfl) l m hl hm w
attribute [local go_sem] eq_words eq_b64
theorem rowOf_below {w w' : World} {g B : Nat} (hb : Below B w w') (hg : g < B) : rowOf w' g = rowOf w g := by unfold rowOf; rw [hb.block g hg]
def S3 (w w2 w3 w4 : World) (q : List UInt32) (bk key nonce : List UInt8) (w' : World) : Prop :=
  rowOf w' w2.heap.size = u32s q ∧ rowOf w' w3.heap.size = u32s q ∧ rowOf w' w4.heap.size = u8s bk ∧ rowOf w' (w.heap.size + 1) = u8s key ∧ rowOf w' (w.heap.size + 1 + 1) = u8s nonce ∧
    w4.heap.size < w'.heap.size ∧ Below w.heap.size w w'
theorem S3.step {w w2 w3 w4 : World} {q : List UInt32} {bk key nonce : List UInt8} {w' w'' : World} (h : S3 w w2 w3 w4 q bk key nonce w') (h2 : w2.heap.size < w4.heap.size) (h3 : w3.heap.size < w4.heap.size) (h1 : w.heap.size + 1 + 1 < w4.heap.size) (hb : Below w'.heap.size w' w'') : S3 w w2 w3 w4 q bk key nonce w'' := by
  obtain ⟨a1, a2, a3, a4, a5, a6, a7⟩ := h
  have hs := hb.size
  exact ⟨by rw [rowOf_below hb (by omega)]; exact a1, by rw [rowOf_below hb (by omega)]; exact a2, by rw [rowOf_below hb (by omega)]; exact a3, by rw [rowOf_below hb (by omega)]; exact a4, by rw [rowOf_below hb (by omega)]; exact a5, by omega, a7.trans (hb.mono (by have := a7.size; omega))⟩
set_option maxRecDepth 100000 in
set_option maxHeartbeats 1600000 in
theorem walk_StreamBlocks (ws : List UInt32) (a b c d : Int) (key : List UInt8) (ctr : UInt32) (nonce : List UInt8) (w : World) (hs : RowIs w 1 (u32s startL)) (hq : RowIs w 0 qCells) (hw : ws.length = 16) (_ : -9223372036854775808 ≤ a) (_ : a ≤ 9223372036854775807) (_ : -9223372036854775808 ≤ b) (_ : b ≤ 9223372036854775807) (_ : -9223372036854775808 ≤ c) (_ : c ≤ 9223372036854775807) (_ : -9223372036854775808 ≤ d) (_ : d ≤ 9223372036854775807) (hkey : key.length = 32) (hnon : nonce.length = 12) :
    Calls Tryd.prog 3 #[.agg (u32s ws), .int .i64 a, .int .i64 b, .int .i64 c, .int .i64 d, .agg (u8s key), .int .u32 (n32 ctr), .agg (u8s nonce)] w (TrueRes w) := by
  have HS := Lib.hid hs
  have HQ := Lib.hid hq
  have hlts := hs.lt
  have hltq := hq.lt
  clear hs hq
  obtain ⟨na, ha, ha2⟩ := and15_any a
  obtain ⟨nb, hb, hb2⟩ := and15_any b
  obtain ⟨nc, hc, hc2⟩ := and15_any c
  obtain ⟨nd, hd, hd2⟩ := and15_any d
  obtain ⟨q, hqe⟩ : ∃ q, q = quarter ws na nb nc nd := ⟨_, rfl⟩
  have hql : q.length = 16 := by rw [hqe, quarter_len, hw]
  have c1 := fun w => quarter_any ws hw a b c d na nb nc nd ha hb hc hd ha2 hb2 hc2 hd2 w
  have c2 := fun w => refQuarter_any ws hw a b c d na nb nc nd ha hb hc hd ha2 hb2 hc2 hd2 w
  rw [← hqe] at c1 c2
  have C1 := Lib.hid c1
  have C2 := Lib.hid c2
  clear c1 c2 hqe ha hb hc hd
  obtain ⟨bk, hbk⟩ : ∃ bk, bk = blockB key ctr nonce := ⟨_, rfl⟩
  have hbl : bk.length = 64 := by rw [hbk, blockB_length]
  have c3 := fun w hs hq => block_any key nonce ctr hkey hnon w hs hq
  have c4 := fun w => refBlock_any key nonce ctr hkey hnon w
  rw [← hbk] at c3 c4
  have C3 := Lib.hid c3
  have C4 := Lib.hid c4
  clear c3 c4 hbk
  obtain ⟨w0, hw0⟩ : ∃ w0, w0 = ((w.alloc (.cells (u32s ws) 24)).alloc (.cells (u8s key) 26)).alloc (.cells (u8s nonce) 27) := ⟨_, rfl⟩
  have B0 : Below w.heap.size w w0 := by rw [hw0]; exact (((Below.refl w.heap.size w).alloc (Nat.le_refl _) _).alloc (by simp) _).alloc (by simp; omega) _
  have R0 : RowIs w0 w.heap.size (u32s ws) := by rw [hw0]; exact ((RowIs.new _ _ _).alloc _).alloc _
  have R1 : RowIs w0 (w.heap.size + 1) (u8s key) := by rw [hw0]; exact (RowIs.new' (by simp)).alloc _
  have R2 : RowIs w0 (w.heap.size + 1 + 1) (u8s nonce) := by rw [hw0]; exact RowIs.new' (by simp)
  go_enter Tryd.func3, Tryd.ntmps3
  go_wp2_with fail
  rw [← hw0]
  clear hw0
  refine (awake_any _ (HS.out.below B0 hlts) (HQ.out.below B0 hltq)).mono ?_
  rintro e w1 ⟨rfl, hb1⟩
  have R0 := R0.below hb1 R0.lt
  have R1 := R1.below hb1 R1.lt
  have R2 := R2.below hb1 R2.lt
  have HB := Lib.hid (B0.trans (hb1.mono B0.size))
  have h0 := R0.has; have h1 := R1.has; have h2 := R2.has
  have h0r := R0.row; have h1r := R1.row; have h2r := R2.row
  have l0 := R0.lt; have l1 := R1.lt; have l2 := R2.lt
  go_wp2_with fail
  refine (C1.out _).mono ?_
  rintro e w2 ⟨rfl, hb2⟩
  have R0 := R0.below hb2 l0
  have R1 := R1.below hb2 l1
  have R2 := R2.below hb2 l2
  have HB := Lib.hid (HB.out.trans (hb2.mono HB.out.size))
  clear h0 h1 h2 h0r h1r h2r l0 l1 l2 hb2
  have h0 := R0.has; have h1 := R1.has; have h2 := R2.has
  have h0r := R0.row; have h1r := R1.row; have h2r := R2.row
  have l0 := R0.lt; have l1 := R1.lt; have l2 := R2.lt
  go_wp2_with fail
  refine (C2.out _).mono ?_
  rintro e w3 ⟨rfl, hb3⟩
  have R3 := (RowIs.new w2 (u32s q) 24).below hb3 (by simp)
  have R0 := (R0.alloc (.cells (u32s q) 24)).below hb3 (by simp; omega)
  have R1 := (R1.alloc (.cells (u32s q) 24)).below hb3 (by simp; omega)
  have R2 := (R2.alloc (.cells (u32s q) 24)).below hb3 (by simp; omega)
  have HB := Lib.hid ((HB.out.alloc HB.out.size (.cells (u32s q) 24)).trans (hb3.mono (by have := HB.out.size; simp; omega)))
  clear h0 h1 h2 h0r h1r h2r l0 l1 l2 hb3
  have h0 := R0.has; have h1 := R1.has; have h2 := R2.has
  have h0r := R0.row; have h1r := R1.row; have h2r := R2.row
  have l0 := R0.lt; have l1 := R1.lt; have l2 := R2.lt
  have h3 := R3.has; have h3r := R3.row; have l3 := R3.lt
  go_wp2_with fail
  have B3 := (Below.refl w3.heap.size w3).alloc (Nat.le_refl _) (.cells (u32s q) 23)
  refine (C3.out _ (HS.out.below (HB.out.alloc HB.out.size _) hlts) (HQ.out.below (HB.out.alloc HB.out.size _) hltq)).mono ?_
  rintro e w4 ⟨rfl, hb4⟩
  have R4 := (RowIs.new w3 (u32s q) 23).below hb4 (by simp)
  have R3 := (R3.alloc (.cells (u32s q) 23)).below hb4 (by simp; omega)
  have R0 := (R0.alloc (.cells (u32s q) 23)).below hb4 (by simp; omega)
  have R1 := (R1.alloc (.cells (u32s q) 23)).below hb4 (by simp; omega)
  have R2 := (R2.alloc (.cells (u32s q) 23)).below hb4 (by simp; omega)
  have HB := Lib.hid ((HB.out.alloc HB.out.size (.cells (u32s q) 23)).trans (hb4.mono (by have := HB.out.size; simp; omega)))
  clear h0 h1 h2 h0r h1r h2r l0 l1 l2 h3 h3r l3 hb4
  have h0 := R0.has; have h1 := R1.has; have h2 := R2.has
  have h0r := R0.row; have h1r := R1.row; have h2r := R2.row
  have l0 := R0.lt; have l1 := R1.lt; have l2 := R2.lt
  have h3 := R3.has; have h3r := R3.row; have l3 := R3.lt
  have h4 := R4.has; have h4r := R4.row; have l4 := R4.lt
  have hs4 := HB.out.size
  have L1 : ∀ w', S3 w w2 w3 w4 q bk key nonce w' → (loadAgg 24 (.pointer (some ⟨w2.heap.size, 0, none⟩))).run Tryd.prog w' = .ok (.value (.agg (u32s q))) w' := fun w' h => by
    have := h.1; rw [load_words w' _ (by rw [this, u32s_size, hql]), this]
  have L2 : ∀ w', S3 w w2 w3 w4 q bk key nonce w' → (loadAgg 23 (.pointer (some ⟨w3.heap.size, 0, none⟩))).run Tryd.prog w' = .ok (.value (.agg (u32s q))) w' := fun w' h => by
    have := h.2.1; rw [load_words' w' _ (by rw [this, u32s_size, hql]), this]
  have L3 : ∀ w', S3 w w2 w3 w4 q bk key nonce w' → (loadAgg 31 (.pointer (some ⟨w4.heap.size, 0, none⟩))).run Tryd.prog w' = .ok (.value (.agg (u8s bk))) w' := fun w' h => by
    have := h.2.2.1; rw [load_b64 w' _ (by rw [this, u8s_size_eq, hbl]), this]
  have L4 : ∀ w', S3 w w2 w3 w4 q bk key nonce w' → (loadAgg 26 (.pointer (some ⟨w.heap.size + 1, 0, none⟩))).run Tryd.prog w' = .ok (.value (.agg (u8s key))) w' := fun w' h => by
    have := h.2.2.2.1; rw [load_key w' _ (by rw [this, u8s_size_eq, hkey]), this]
  have L5 : ∀ w', S3 w w2 w3 w4 q bk key nonce w' → (loadAgg 27 (.pointer (some ⟨w.heap.size + 1 + 1, 0, none⟩))).run Tryd.prog w' = .ok (.value (.agg (u8s nonce))) w' := fun w' h => by
    have := h.2.2.2.2.1; rw [load_b12 w' _ (by rw [this, u8s_size_eq, hnon]), this]
  have HH := Lib.hid (And.intro l2 (And.intro l3 l4))
  go_wp2_with fail
  refine wp_region_lexS [] [2, 3, 7, 8, 10] (S3 w w2 w3 w4 q bk key nonce) (by kernel_rfl) (by decide +kernel) ?_ (fun hS => ?_)
  · refine ⟨by go_simp, by go_simp, by go_simp, by go_simp, by go_simp, by simp [World.drew], ?_⟩
    exact (HB.out.alloc hs4 _).drew
  · clear h0 h1 h2 h0r h1r h2r l0 l1 l2 h3 h3r l3 h4 h4r l4
    go_wp2_with (first | (refine wpLexS_nil ?_) | (refine wpLexS_pure rfl (fun _ _ => ?_); go_simp; refine ⟨_, (by first | exact L1 | exact L2 | exact L3 | exact L4 | exact L5), ?_⟩) | (refine wpLexS_pure0 rfl (fun _ _ => ?_); go_simp; try go_bits) | (refine wpLexS_loud rfl (fun KL hKL => ?_)))
    refine (C4.out _).mono ?_
    rintro e w5 ⟨rfl, hb5⟩
    have hS5 : S3 w w2 w3 w4 q bk key nonce w5 := hS.step HH.out.2.1 HH.out.2.2 HH.out.1 hb5
    have HS5 := Lib.hid hS5
    go_wp2_with (first | (refine wpLexS_nil ?_) | (refine wpLexS_pure rfl (fun _ _ => ?_); go_simp; refine ⟨_, (by first | exact L1 | exact L2 | exact L3 | exact L4 | exact L5), ?_⟩) | (refine wpLexS_pure0 rfl (fun _ _ => ?_); go_simp; try go_bits) | (refine wpLexS_loud rfl (fun KL hKL => ?_)))
    refine hKL _ _ hS5 (fun _ => ?_)
    go_wp2_with (first | (refine wpLexS_nil ?_) | (refine wpLexS_pure rfl (fun _ _ => ?_); go_simp; refine ⟨_, (by first | exact L1 | exact L2 | exact L3 | exact L4 | exact L5), ?_⟩) | (refine wpLexS_pure0 rfl (fun _ _ => ?_); go_simp; try go_bits) | (refine wpLexS_loud rfl (fun KL hKL => ?_)))
    go_ret
    exact ⟨by simp, hS5.2.2.2.2.2.2⟩
end Go.Proofs.YtbiiffendpkidaaDoor
