/- Layer 4: the chapter's examples. -/
import Derived.Test.YtbiiffendpkidaaDoorRefBlock
import Derived.Test.YtbiiffendpkidaaDoorOpen
namespace Go.Proofs.YtbiiffendpkidaaDoor
open Go.RowKit
attribute [local go_sem ↓] exec_load_words exec_store_words exec_load_words' exec_store_words' exec_load_b64 exec_store_b64 exec_load_key exec_load_b12
attribute [local go_sem] load_words store_words load_words' store_words' zero16z z32_length load_b64 store_b64 z8_length zero64 load_key load_b12
theorem store_key (w : World) (g : Nat) (cs : Array Value) (hr : (rowOf w g).size = 32) (hc : cs.size = 32) (h1 : cs.all (·.oneCell') = true) :
    (storeAgg 26 (.pointer (some ⟨g, 0, none⟩)) (.agg cs)).run Tryd.prog w = .ok .skip (w.setRow g cs) :=
  run_storeAgg 32 26 (by omega) (by kernel_rfl) w g cs hr hc h1
theorem exec_store_key (ev : Operand → Value) (d : Option Tmp) (x y : Operand) (ty : TypeId) (p : String) (af : Array Edge) (g : Option (Nat × Bool)) :
    execOp ev ⟨d, .store 26 x y, ty, p, af, g⟩ = storeAgg 26 (ev x) (ev y) := exec_storeAgg ev d _ x y ty p af g
theorem zero32 : #[Value.int .u8 0, .int .u8 0, .int .u8 0, .int .u8 0, .int .u8 0, .int .u8 0, .int .u8 0, .int .u8 0, .int .u8 0, .int .u8 0, .int .u8 0, .int .u8 0, .int .u8 0, .int .u8 0, .int .u8 0, .int .u8 0, .int .u8 0, .int .u8 0, .int .u8 0, .int .u8 0, .int .u8 0, .int .u8 0, .int .u8 0, .int .u8 0, .int .u8 0, .int .u8 0, .int .u8 0, .int .u8 0, .int .u8 0, .int .u8 0, .int .u8 0, .int .u8 0] = u8s (z8 32) := by
  rw [z8_def]; simp [u8s_def, n8_def, List.replicate]
theorem exec_build_w (ev : Operand → Value) (d : Option Tmp) (ps : Array (Nat × Operand)) (ty : TypeId) (p : String) (af : Array Edge) (g : Option (Nat × Bool)) :
    execOp ev ⟨d, .build 24 ps, ty, p, af, g⟩ = buildK 24 (ps.map fun x => (x.1, ev x.2)) := exec_buildK ev d _ ps ty p af g
theorem exec_build_key (ev : Operand → Value) (d : Option Tmp) (ps : Array (Nat × Operand)) (ty : TypeId) (p : String) (af : Array Edge) (g : Option (Nat × Bool)) :
    execOp ev ⟨d, .build 26 ps, ty, p, af, g⟩ = buildK 26 (ps.map fun x => (x.1, ev x.2)) := exec_buildK ev d _ ps ty p af g
theorem exec_build_12 (ev : Operand → Value) (d : Option Tmp) (ps : Array (Nat × Operand)) (ty : TypeId) (p : String) (af : Array Edge) (g : Option (Nat × Bool)) :
    execOp ev ⟨d, .build 27 ps, ty, p, af, g⟩ = buildK 27 (ps.map fun x => (x.1, ev x.2)) := exec_buildK ev d _ ps ty p af g
@[irreducible] def awW : List UInt32 := [286331153, 16909060, 2609737539, 19088743, 0, 0, 0, 0, 0, 0, 0, 0, 0, 0, 0, 0]
@[irreducible] def awN : List UInt8 := [0, 0, 0, 9, 0, 0, 0, 74, 0, 0, 0, 0]
@[irreducible] def awK : List UInt8 := (List.range 32).map UInt8.ofNat
theorem awW_length : awW.length = 16 := by unfold awW; rfl
theorem awN_length : awN.length = 12 := by unfold awN; rfl
theorem awK_length : awK.length = 32 := by unfold awK; simp
theorem build_aw (w : World) : (buildK 24 #[(0, .int .u32 286331153), (1, .int .u32 16909060), (2, .int .u32 2609737539), (3, .int .u32 19088743)]).run Tryd.prog w = .ok (.value (.agg (u32s awW))) w :=
  run_buildK (by change _ = _; kernel_rfl) w
theorem build_key0 (w : World) : (buildK 26 #[]).run Tryd.prog w = .ok (.value (.agg (u8s (z8 32)))) w :=
  run_buildK (by change _ = _; kernel_rfl) w
theorem build_an (w : World) : (buildK 27 #[(0, .int .u8 0), (1, .int .u8 0), (2, .int .u8 0), (3, .int .u8 9), (4, .int .u8 0), (5, .int .u8 0), (6, .int .u8 0), (7, .int .u8 74)]).run Tryd.prog w = .ok (.value (.agg (u8s awN))) w :=
  run_buildK (by change _ = _; kernel_rfl) w
attribute [local go_sem ↓] exec_store_key exec_build_w exec_build_key exec_build_12
attribute [local go_sem] store_key zero32 build_aw build_key0 build_an awW_length awN_length awK_length
theorem quarter_at (ws : List UInt32) (hw : ws.length = 16) (na nb nc nd : Nat) (a b c d : Int) (ha : a = na) (hb : b = nb) (hc : c = nc) (hd : d = nd) (ha2 : na < 16) (hb2 : nb < 16) (hc2 : nc < 16) (hd2 : nd < 16) (w : World) :
    Calls Tryd.prog 10 #[.agg (u32s ws), .int .i64 a, .int .i64 b, .int .i64 c, .int .i64 d] w (WordsRes w (quarter ws na nb nc nd)) := by
  subst ha hb hc hd
  exact quarter_nat ws hw na nb nc nd ha2 hb2 hc2 hd2 w
theorem aw_q : at32 (quarter awW 0 1 2 3) 0 = 3928658676 ∧ at32 (quarter awW 0 1 2 3) 1 = 3407673550 ∧ at32 (quarter awW 0 1 2 3) 2 = 1166100270 ∧ at32 (quarter awW 0 1 2 3) 3 = 1484899515 := by decide +kernel
theorem aw_b : at8 (blockB awK 1 awN) 0 = 16 ∧ at8 (blockB awK 1 awN) 1 = 241 ∧ at8 (blockB awK 1 awN) 2 = 231 ∧ at8 (blockB awK 1 awN) 3 = 228 ∧ at8 (blockB awK 1 awN) 15 = 196 := by decide +kernel
set_option maxRecDepth 100000 in
set_option maxHeartbeats 1600000 in
theorem awake_any (w : World) (hs : RowIs w 1 (u32s startL)) (hq : RowIs w 0 qCells) : Calls Tryd.prog 9 #[] w (TrueRes w) := by
  have HS := Lib.hid hs
  have HQ := Lib.hid hq
  have hlts := hs.lt
  have hltq := hq.lt
  clear hs hq
  obtain ⟨qw, hqw⟩ : ∃ qw, qw = quarter awW 0 1 2 3 := ⟨_, rfl⟩
  have hql : qw.length = 16 := by rw [hqw, quarter_len, awW_length]
  obtain ⟨q0, q1, q2, q3⟩ := aw_q
  rw [← hqw] at q0 q1 q2 q3
  have m0 : n32 (at32 qw 0) = 3928658676 := by rw [q0, n32_def]; rfl
  have m1 : n32 (at32 qw 1) = 3407673550 := by rw [q1, n32_def]; rfl
  have m2 : n32 (at32 qw 2) = 1166100270 := by rw [q2, n32_def]; rfl
  have m3 : n32 (at32 qw 3) = 1484899515 := by rw [q3, n32_def]; rfl
  clear q0 q1 q2 q3
  have cq := fun w => quarter_at awW awW_length 0 1 2 3 0 1 2 3 rfl rfl rfl rfl (by omega) (by omega) (by omega) (by omega) w
  rw [← hqw] at cq
  have CQ := Lib.hid cq
  clear cq hqw
  go_enter Tryd.func9, Tryd.ntmps9
  go_wp2_with fail
  refine (CQ.out _).mono ?_
  rintro e w1 ⟨rfl, hb1⟩
  have hs1 := hb1.size
  go_wp2_with fail
  go_loopw [3] (fun i wr => ∃ (j : Nat) (o : List UInt8), j ≤ 32 ∧ i = .int .i64 j ∧ o.length = 32 ∧ (∀ x, x < j → at8 o x = UInt8.ofNat x) ∧ wr = (w1.alloc (.cells (u32s qw) 24)).alloc (.cells (u8s o) 26)) (fun i _ => 32 - (intOf i).toNat)
  case atStart => exact ⟨0, z8 32, by omega, rfl, z8_length _, fun x hx => by omega, rfl⟩
  case round =>
    obtain ⟨j, o, hj, rfl, hol, hox, rfl⟩ := hrel
    have HO := Lib.hid hox
    clear hox
    by_cases hlt : j < 32
    · have hj0 : (0 : Int) ≤ (j : Int) := by omega
      have hj1 : (j : Int) < 32 := by omega
      have hcv : IntKind.u8.wrap (j : Int) = n8 (UInt8.ofNat j) := by rw [wrap_u8, n8_def, UInt8.toNat_ofNat']; omega
      go_wp2_with fail
      refine ⟨⟨j + 1, o.set j (UInt8.ofNat j), by omega, by go_num, by rw [List.length_set]; exact hol, fun y hy => ?_, ?_⟩, by simp [intOf]; omega⟩
      · rw [at8_set _ _ _ _ (by omega)]
        split
        · subst_vars; rfl
        · exact HO.out y (by omega)
      · first | rfl | rw [u8s_set]
    · have e : j = 32 := by omega
      subst e
      have eo : o = awK := by unfold awK; exact ext8 hol fun y hy => HO.out y hy
      subst eo
      rw [show ((32 : Nat) : Int) = 32 from rfl]
      obtain ⟨bk, hbk⟩ : ∃ bk, bk = blockB awK 1 awN := ⟨_, rfl⟩
      have hbl : bk.length = 64 := by rw [hbk, blockB_length]
      obtain ⟨k0, k1, k2, k3, k15⟩ := aw_b
      rw [← hbk] at k0 k1 k2 k3 k15
      have p0 : n8 (at8 bk 0) = 16 := by rw [k0, n8_def]; rfl
      have p1 : n8 (at8 bk 1) = 241 := by rw [k1, n8_def]; rfl
      have p2 : n8 (at8 bk 2) = 231 := by rw [k2, n8_def]; rfl
      have p3 : n8 (at8 bk 3) = 228 := by rw [k3, n8_def]; rfl
      have p15 : n8 (at8 bk 15) = 196 := by rw [k15, n8_def]; rfl
      clear k0 k1 k2 k3 k15
      have cb := fun w hs hq => block_any awK awN 1 awK_length awN_length w hs hq
      rw [← hbk, show n32 1 = 1 by rw [n32_def]; rfl] at cb
      have CB := Lib.hid cb
      clear cb hbk
      have HB := Lib.hid ((hb1.alloc hs1 (.cells (u32s qw) 24)).alloc (by simp; omega) (.cells (u8s awK) 26))
      go_wp2_with fail
      refine (CB.out _ (HS.out.below HB.out hlts) (HQ.out.below HB.out hltq)).mono ?_
      rintro e w2 ⟨rfl, hb2⟩
      have R1 : RowIs w2 w1.heap.size (u32s qw) := RowIs.below ((RowIs.new w1 _ _).alloc _) hb2 (by simp; omega)
      have HB := Lib.hid (HB.out.trans (hb2.mono (by simp; omega)))
      have h1 := R1.has
      have h1r := R1.row
      have h1l := R1.lt
      have c0 := R1.cell32 0 (by omega)
      have c1 := R1.cell32 1 (by omega)
      have c2 := R1.cell32 2 (by omega)
      have c3 := R1.cell32 3 (by omega)
      rw [m0] at c0
      rw [m1] at c1
      rw [m2] at c2
      rw [m3] at c3
      clear R1
      go_wp2_with fail
      go_ret
      exact ⟨rfl, HB.out.alloc (by have := HB.out.size; omega) _⟩
end Go.Proofs.YtbiiffendpkidaaDoor
