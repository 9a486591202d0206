/- Keys: thirty-two bytes, loaded, stored, built whole. -/
import Derived.Test.YtopmdbmnlflpgaaDoorFacts
import Derived.Test.YtopmdbmnlflpgaaDoorLex
import Derived.Test.YtopmdbmnlflpgaaDoorRow
import Derived.Test.YtopmdbmnlflpgaaDoorCopy
import Derived.Test.YtopmdbmnlflpgaaDoorEq
namespace Go.Proofs.YtopmdbmnlflpgaaDoor
open Go.RowKit
@[irreducible] def zeros (n : Nat) : List UInt8 := List.replicate n 0
theorem zeros_def (n : Nat) : zeros n = List.replicate n 0 := by unfold zeros; rfl
theorem zeros_length (n : Nat) : (zeros n).length = n := by simp [zeros_def]
theorem keyZero : #[Value.int .u8 0, .int .u8 0, .int .u8 0, .int .u8 0, .int .u8 0, .int .u8 0, .int .u8 0, .int .u8 0, .int .u8 0, .int .u8 0, .int .u8 0, .int .u8 0, .int .u8 0, .int .u8 0, .int .u8 0, .int .u8 0, .int .u8 0, .int .u8 0, .int .u8 0, .int .u8 0, .int .u8 0, .int .u8 0, .int .u8 0, .int .u8 0, .int .u8 0, .int .u8 0, .int .u8 0, .int .u8 0, .int .u8 0, .int .u8 0, .int .u8 0, .int .u8 0] = u8s (zeros 32) := by
  rw [zeros_def]; simp [u8s_def, n8_def, List.replicate]
theorem keyLoad (w : World) (g : Nat) (hr : (rowOf w g).size = 32) : (loadAgg 33 (.pointer (some ⟨g, 0, none⟩))).run Tryd.prog w = .ok (.value (.agg (rowOf w g))) w :=
  run_loadAgg 32 33 (by omega) (by kernel_rfl) (by kernel_rfl) w g hr
theorem keyStore (w : World) (g : Nat) (cs : Array Value) (hr : (rowOf w g).size = 32) (hc : cs.size = 32) (h1 : cs.all (·.oneCell') = true) :
    (storeAgg 33 (.pointer (some ⟨g, 0, none⟩)) (.agg cs)).run Tryd.prog w = .ok .skip (w.setRow g cs) :=
  run_storeAgg 32 33 (by omega) (by kernel_rfl) w g cs hr hc h1
theorem keyBuild (w : World) : (buildK 33 #[]).run Tryd.prog w = .ok (.value (.agg (u8s (zeros 32)))) w :=
  run_buildK (by change _ = _; kernel_rfl) w
theorem keyEq (w : World) (l m : List UInt8) (hl : l.length = 32) (hm : m.length = 32) : (Op.equalIn 10000 33 (.agg (u8s l)) (.agg (u8s m))).run Tryd.prog w = .ok (decide (l = m)) w :=
  run_equal8 Tryd.underlying33 (by kernel_rfl) Tryd.underlying5 (by kernel_rfl) l m hl hm w
theorem xkeyLoad (ev : Operand → Value) (d : Option Tmp) (x : Operand) (ty : TypeId) (p : String) (af : Array Edge) (g : Option (Nat × Bool)) :
    execOp ev ⟨d, .load 33 x, ty, p, af, g⟩ = loadAgg 33 (ev x) := exec_loadAgg ev d _ x ty p af g
theorem xkeyStore (ev : Operand → Value) (d : Option Tmp) (x y : Operand) (ty : TypeId) (p : String) (af : Array Edge) (g : Option (Nat × Bool)) :
    execOp ev ⟨d, .store 33 x y, ty, p, af, g⟩ = storeAgg 33 (ev x) (ev y) := exec_storeAgg ev d _ x y ty p af g
theorem xkeyBuild (ev : Operand → Value) (d : Option Tmp) (ps : Array (Nat × Operand)) (ty : TypeId) (p : String) (af : Array Edge) (g : Option (Nat × Bool)) :
    execOp ev ⟨d, .build 33 ps, ty, p, af, g⟩ = buildK 33 (ps.map fun x => (x.1, ev x.2)) := exec_buildK ev d _ ps ty p af g
attribute [go_sem ↓] xkeyLoad xkeyStore xkeyBuild
attribute [go_sem] zeros_length keyZero keyLoad keyStore keyBuild keyEq
end Go.Proofs.YtopmdbmnlflpgaaDoor
