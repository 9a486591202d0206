/- Layer 2's arrays: loaded, stored, built whole. -/
import Derived.Test.YtopmdbmnlflpgaaDoorFacts
import Derived.Test.YtopmdbmnlflpgaaDoorLex
import Derived.Test.YtopmdbmnlflpgaaDoorRow
import Derived.Test.YtopmdbmnlflpgaaDoorCopy
import Derived.Test.YtopmdbmnlflpgaaDoorEq
namespace Go.Proofs.YtopmdbmnlflpgaaDoor
open Go.RowKit
@[irreducible] def z32 (n : Nat) : List UInt32 := List.replicate n 0
theorem z32_def (n : Nat) : z32 n = List.replicate n 0 := by unfold z32; rfl
theorem z32_length (n : Nat) : (z32 n).length = n := by simp [z32_def]
@[irreducible] def z8 (n : Nat) : List UInt8 := List.replicate n 0
theorem z8_def (n : Nat) : z8 n = List.replicate n 0 := by unfold z8; rfl
theorem z8_length (n : Nat) : (z8 n).length = n := by simp [z8_def]
theorem zw8 : #[Value.int .u32 0, Value.int .u32 0, Value.int .u32 0, Value.int .u32 0, Value.int .u32 0, Value.int .u32 0, Value.int .u32 0, Value.int .u32 0] = u32s (z32 8) := by
  rw [z32_def]; simp [u32s_def, n32_def, List.replicate]
theorem zw64 : #[Value.int .u32 0, Value.int .u32 0, Value.int .u32 0, Value.int .u32 0, Value.int .u32 0, Value.int .u32 0, Value.int .u32 0, Value.int .u32 0, Value.int .u32 0, Value.int .u32 0, Value.int .u32 0, Value.int .u32 0, Value.int .u32 0, Value.int .u32 0, Value.int .u32 0, Value.int .u32 0, Value.int .u32 0, Value.int .u32 0, Value.int .u32 0, Value.int .u32 0, Value.int .u32 0, Value.int .u32 0, Value.int .u32 0, Value.int .u32 0, Value.int .u32 0, Value.int .u32 0, Value.int .u32 0, Value.int .u32 0, Value.int .u32 0, Value.int .u32 0, Value.int .u32 0, Value.int .u32 0, Value.int .u32 0, Value.int .u32 0, Value.int .u32 0, Value.int .u32 0, Value.int .u32 0, Value.int .u32 0, Value.int .u32 0, Value.int .u32 0, Value.int .u32 0, Value.int .u32 0, Value.int .u32 0, Value.int .u32 0, Value.int .u32 0, Value.int .u32 0, Value.int .u32 0, Value.int .u32 0, Value.int .u32 0, Value.int .u32 0, Value.int .u32 0, Value.int .u32 0, Value.int .u32 0, Value.int .u32 0, Value.int .u32 0, Value.int .u32 0, Value.int .u32 0, Value.int .u32 0, Value.int .u32 0, Value.int .u32 0, Value.int .u32 0, Value.int .u32 0, Value.int .u32 0, Value.int .u32 0] = u32s (z32 64) := by
  rw [z32_def]; simp [u32s_def, n32_def, List.replicate]
theorem zb64 : #[Value.int .u8 0, Value.int .u8 0, Value.int .u8 0, Value.int .u8 0, Value.int .u8 0, Value.int .u8 0, Value.int .u8 0, Value.int .u8 0, Value.int .u8 0, Value.int .u8 0, Value.int .u8 0, Value.int .u8 0, Value.int .u8 0, Value.int .u8 0, Value.int .u8 0, Value.int .u8 0, Value.int .u8 0, Value.int .u8 0, Value.int .u8 0, Value.int .u8 0, Value.int .u8 0, Value.int .u8 0, Value.int .u8 0, Value.int .u8 0, Value.int .u8 0, Value.int .u8 0, Value.int .u8 0, Value.int .u8 0, Value.int .u8 0, Value.int .u8 0, Value.int .u8 0, Value.int .u8 0, Value.int .u8 0, Value.int .u8 0, Value.int .u8 0, Value.int .u8 0, Value.int .u8 0, Value.int .u8 0, Value.int .u8 0, Value.int .u8 0, Value.int .u8 0, Value.int .u8 0, Value.int .u8 0, Value.int .u8 0, Value.int .u8 0, Value.int .u8 0, Value.int .u8 0, Value.int .u8 0, Value.int .u8 0, Value.int .u8 0, Value.int .u8 0, Value.int .u8 0, Value.int .u8 0, Value.int .u8 0, Value.int .u8 0, Value.int .u8 0, Value.int .u8 0, Value.int .u8 0, Value.int .u8 0, Value.int .u8 0, Value.int .u8 0, Value.int .u8 0, Value.int .u8 0, Value.int .u8 0] = u8s (z8 64) := by
  rw [z8_def]; simp [u8s_def, n8_def, List.replicate]
theorem stLoad (w : World) (g : Nat) (hr : (rowOf w g).size = 8) : (loadAgg 23 (.pointer (some ⟨g, 0, none⟩))).run Tryd.prog w = .ok (.value (.agg (rowOf w g))) w :=
  run_loadAgg 8 23 (by omega) (by kernel_rfl) (by kernel_rfl) w g hr
theorem stStore (w : World) (g : Nat) (cs : Array Value) (hr : (rowOf w g).size = 8) (hc : cs.size = 8) (h1 : cs.all (·.oneCell') = true) :
    (storeAgg 23 (.pointer (some ⟨g, 0, none⟩)) (.agg cs)).run Tryd.prog w = .ok .skip (w.setRow g cs) :=
  run_storeAgg 8 23 (by omega) (by kernel_rfl) w g cs hr hc h1
theorem xstLoad (ev : Operand → Value) (d : Option Tmp) (x : Operand) (ty : TypeId) (p : String) (af : Array Edge) (g : Option (Nat × Bool)) :
    execOp ev ⟨d, .load 23 x, ty, p, af, g⟩ = loadAgg 23 (ev x) := exec_loadAgg ev d _ x ty p af g
theorem xstStore (ev : Operand → Value) (d : Option Tmp) (x y : Operand) (ty : TypeId) (p : String) (af : Array Edge) (g : Option (Nat × Bool)) :
    execOp ev ⟨d, .store 23 x y, ty, p, af, g⟩ = storeAgg 23 (ev x) (ev y) := exec_storeAgg ev d _ x y ty p af g
theorem xstBuild (ev : Operand → Value) (d : Option Tmp) (ps : Array (Nat × Operand)) (ty : TypeId) (p : String) (af : Array Edge) (g : Option (Nat × Bool)) :
    execOp ev ⟨d, .build 23 ps, ty, p, af, g⟩ = buildK 23 (ps.map fun x => (x.1, ev x.2)) := exec_buildK ev d _ ps ty p af g
attribute [go_sem ↓] xstLoad xstStore xstBuild
attribute [go_sem] stLoad stStore
theorem w64Load (w : World) (g : Nat) (hr : (rowOf w g).size = 64) : (loadAgg 114 (.pointer (some ⟨g, 0, none⟩))).run Tryd.prog w = .ok (.value (.agg (rowOf w g))) w :=
  run_loadAgg 64 114 (by omega) (by kernel_rfl) (by kernel_rfl) w g hr
theorem w64Store (w : World) (g : Nat) (cs : Array Value) (hr : (rowOf w g).size = 64) (hc : cs.size = 64) (h1 : cs.all (·.oneCell') = true) :
    (storeAgg 114 (.pointer (some ⟨g, 0, none⟩)) (.agg cs)).run Tryd.prog w = .ok .skip (w.setRow g cs) :=
  run_storeAgg 64 114 (by omega) (by kernel_rfl) w g cs hr hc h1
theorem xw64Load (ev : Operand → Value) (d : Option Tmp) (x : Operand) (ty : TypeId) (p : String) (af : Array Edge) (g : Option (Nat × Bool)) :
    execOp ev ⟨d, .load 114 x, ty, p, af, g⟩ = loadAgg 114 (ev x) := exec_loadAgg ev d _ x ty p af g
theorem xw64Store (ev : Operand → Value) (d : Option Tmp) (x y : Operand) (ty : TypeId) (p : String) (af : Array Edge) (g : Option (Nat × Bool)) :
    execOp ev ⟨d, .store 114 x y, ty, p, af, g⟩ = storeAgg 114 (ev x) (ev y) := exec_storeAgg ev d _ x y ty p af g
theorem xw64Build (ev : Operand → Value) (d : Option Tmp) (ps : Array (Nat × Operand)) (ty : TypeId) (p : String) (af : Array Edge) (g : Option (Nat × Bool)) :
    execOp ev ⟨d, .build 114 ps, ty, p, af, g⟩ = buildK 114 (ps.map fun x => (x.1, ev x.2)) := exec_buildK ev d _ ps ty p af g
attribute [go_sem ↓] xw64Load xw64Store xw64Build
attribute [go_sem] w64Load w64Store
theorem b64Load (w : World) (g : Nat) (hr : (rowOf w g).size = 64) : (loadAgg 24 (.pointer (some ⟨g, 0, none⟩))).run Tryd.prog w = .ok (.value (.agg (rowOf w g))) w :=
  run_loadAgg 64 24 (by omega) (by kernel_rfl) (by kernel_rfl) w g hr
theorem b64Store (w : World) (g : Nat) (cs : Array Value) (hr : (rowOf w g).size = 64) (hc : cs.size = 64) (h1 : cs.all (·.oneCell') = true) :
    (storeAgg 24 (.pointer (some ⟨g, 0, none⟩)) (.agg cs)).run Tryd.prog w = .ok .skip (w.setRow g cs) :=
  run_storeAgg 64 24 (by omega) (by kernel_rfl) w g cs hr hc h1
theorem xb64Load (ev : Operand → Value) (d : Option Tmp) (x : Operand) (ty : TypeId) (p : String) (af : Array Edge) (g : Option (Nat × Bool)) :
    execOp ev ⟨d, .load 24 x, ty, p, af, g⟩ = loadAgg 24 (ev x) := exec_loadAgg ev d _ x ty p af g
theorem xb64Store (ev : Operand → Value) (d : Option Tmp) (x y : Operand) (ty : TypeId) (p : String) (af : Array Edge) (g : Option (Nat × Bool)) :
    execOp ev ⟨d, .store 24 x y, ty, p, af, g⟩ = storeAgg 24 (ev x) (ev y) := exec_storeAgg ev d _ x y ty p af g
theorem xb64Build (ev : Operand → Value) (d : Option Tmp) (ps : Array (Nat × Operand)) (ty : TypeId) (p : String) (af : Array Edge) (g : Option (Nat × Bool)) :
    execOp ev ⟨d, .build 24 ps, ty, p, af, g⟩ = buildK 24 (ps.map fun x => (x.1, ev x.2)) := exec_buildK ev d _ ps ty p af g
attribute [go_sem ↓] xb64Load xb64Store xb64Build
attribute [go_sem] b64Load b64Store
theorem stEq (w : World) (l m : List UInt32) (hl : l.length = 8) (hm : m.length = 8) : (Op.equalIn 10000 23 (.agg (u32s l)) (.agg (u32s m))).run Tryd.prog w = .ok (decide (l = m)) w :=
  run_equal32 Tryd.underlying23 (by kernel_rfl) Tryd.underlying22 (by kernel_rfl) l m hl hm w
attribute [go_sem] z32_length z8_length zw8 zw64 zb64 stEq
end Go.Proofs.YtopmdbmnlflpgaaDoor
