/- Keys: thirty-two bytes, loaded, stored, built whole. -/
import Derived.Test.YtifnpphkplogaaaFacts
import Derived.Test.YtifnpphkplogaaaLex
import Derived.Test.YtifnpphkplogaaaRow
import Derived.Test.YtifnpphkplogaaaCopy
import Derived.Test.YtifnpphkplogaaaEq
namespace Go.Proofs.Ytifnpphkplogaaa
open Go.RowKit
@[irreducible] def zeros (n : Nat) : List UInt8 := List.replicate n 0
theorem zeros_def (n : Nat) : zeros n = List.replicate n 0 := by unfold zeros; rfl
theorem zeros_length (n : Nat) : (zeros n).length = n := by simp [zeros_def]
theorem keyZero : #[Value.int .u8 0, .int .u8 0, .int .u8 0, .int .u8 0, .int .u8 0, .int .u8 0, .int .u8 0, .int .u8 0, .int .u8 0, .int .u8 0, .int .u8 0, .int .u8 0, .int .u8 0, .int .u8 0, .int .u8 0, .int .u8 0, .int .u8 0, .int .u8 0, .int .u8 0, .int .u8 0, .int .u8 0, .int .u8 0, .int .u8 0, .int .u8 0, .int .u8 0, .int .u8 0, .int .u8 0, .int .u8 0, .int .u8 0, .int .u8 0, .int .u8 0, .int .u8 0] = u8s (zeros 32) := by
  rw [zeros_def]; simp [u8s_def, n8_def, List.replicate]
theorem keyLoad (w : World) (g : Nat) (hr : (rowOf w g).size = 32) : (loadAgg 72 (.pointer (some ⟨g, 0, none⟩))).run Try.prog w = .ok (.value (.agg (rowOf w g))) w :=
  run_loadAgg 32 72 (by omega) (by kernel_rfl) (by kernel_rfl) w g hr
theorem keyStore (w : World) (g : Nat) (cs : Array Value) (hr : (rowOf w g).size = 32) (hc : cs.size = 32) (h1 : cs.all (·.oneCell') = true) :
    (storeAgg 72 (.pointer (some ⟨g, 0, none⟩)) (.agg cs)).run Try.prog w = .ok .skip (w.setRow g cs) :=
  run_storeAgg 32 72 (by omega) (by kernel_rfl) w g cs hr hc h1
theorem keyBuild (w : World) : (buildK 72 #[]).run Try.prog w = .ok (.value (.agg (u8s (zeros 32)))) w :=
  run_buildK (by change _ = _; kernel_rfl) w
theorem keyEq (w : World) (l m : List UInt8) (hl : l.length = 32) (hm : m.length = 32) : (Op.equalIn 10000 72 (.agg (u8s l)) (.agg (u8s m))).run Try.prog w = .ok (decide (l = m)) w :=
  run_equal8 Try.underlying72 (by kernel_rfl) Try.underlying5 (by kernel_rfl) l m hl hm w
theorem xkeyLoad (ev : Operand → Value) (d : Option Tmp) (x : Operand) (ty : TypeId) (p : String) (af : Array Edge) (g : Option (Nat × Bool)) :
    execOp ev ⟨d, .load 72 x, ty, p, af, g⟩ = loadAgg 72 (ev x) := exec_loadAgg ev d _ x ty p af g
theorem xkeyStore (ev : Operand → Value) (d : Option Tmp) (x y : Operand) (ty : TypeId) (p : String) (af : Array Edge) (g : Option (Nat × Bool)) :
    execOp ev ⟨d, .store 72 x y, ty, p, af, g⟩ = storeAgg 72 (ev x) (ev y) := exec_storeAgg ev d _ x y ty p af g
theorem xkeyBuild (ev : Operand → Value) (d : Option Tmp) (ps : Array (Nat × Operand)) (ty : TypeId) (p : String) (af : Array Edge) (g : Option (Nat × Bool)) :
    execOp ev ⟨d, .build 72 ps, ty, p, af, g⟩ = buildK 72 (ps.map fun x => (x.1, ev x.2)) := exec_buildK ev d _ ps ty p af g
attribute [go_sem ↓] xkeyLoad xkeyStore xkeyBuild
attribute [go_sem] zeros_length keyZero keyLoad keyStore keyBuild keyEq
end Go.Proofs.Ytifnpphkplogaaa
