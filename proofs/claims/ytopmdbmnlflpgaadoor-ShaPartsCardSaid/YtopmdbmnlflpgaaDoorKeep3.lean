/- A map keyed by digests, and a meter's Alike where all inputs are the same. -/
import Derived.Test.YtopmdbmnlflpgaaDoorKeep2
import Derived.WideKeyRuns
import Derived.MapKept
import Derived.Carry
namespace Go.Proofs.YtopmdbmnlflpgaaDoor
open Go.RowKit
theorem run_check8a (em : Bool) (d : Nat) (z : Int) (w : World) : (Instr.checkKey em (d + 1) 5 (.int .u8 z)).run Tryd.prog w = .ok () w := by
  simp [Instr.checkKey, run_underlying Tryd.underlying5]
theorem run_check8d (em : Bool) (d : Nat) (h : List UInt8) (hh : h.length = 32) (w : World) : (Instr.checkKey em (d + 1 + 1) 33 (.agg (u8s h))).run Tryd.prog w = .ok () w := by
  obtain ⟨i, hi⟩ := Option.isSome_iff_exists.1 (show (Tryd.prog.info? 5).isSome = true by kernel_rfl)
  have hs : Tryd.prog.cellsOf 5 = 1 := by kernel_rfl
  rw [Instr.checkKey]
  simp only [Sem.run_bind, run_underlying Tryd.underlying33, Result.andThen_ok]
  simp only [Std.Legacy.Range.forIn_eq_forIn_range', Std.Legacy.Range.size, Nat.sub_zero, Nat.add_one_sub_one, Nat.div_one]
  have each : ∀ j ∈ List.range' 0 32, j < 32 := fun j hj => by simp at hj; omega
  generalize List.range' 0 32 = is at each
  induction is with
  | nil => simp
  | cons j is ih =>
    have hj := each j (by simp)
    have p1 := run_part_int Tryd.underlying5 w (u8s h) (j * Tryd.prog.cellsOf 5) _ (by rw [hs, Nat.mul_one]; exact u8s_get h j (by omega))
    have p2 := run_check8a em d (n8 (at8 h j)) w
    simp only [List.forIn_cons, Sem.run_bind, run_sizeOf w hi, Result.andThen_ok, p1, p2, Sem.run_pure]
    exact ih (fun y hy => each y (by simp [hy]))
theorem run_check8 (em : Bool) (h : List UInt8) (hh : h.length = 32) (w : World) : (Instr.checkKey em 10000 33 (.agg (u8s h))).run Tryd.prog w = .ok () w := run_check8d em 9998 h hh w
theorem key_selfK (h : List UInt8) (hh : h.length = 32) (w : World) : (Op.equal 33 (.agg (u8s h)) (.agg (u8s h))).run Tryd.prog w = .ok true w := by
  obtain ⟨i, hi⟩ := Option.isSome_iff_exists.1 (show (Tryd.prog.info? 5).isSome = true by kernel_rfl)
  show (Op.equalIn 10000 33 (.agg (u8s h)) (.agg (u8s h))).run Tryd.prog w = .ok true w
  rw [run_equalIn_array w 9999 (u8s h) (u8s h) Tryd.underlying33 hi, show Tryd.prog.cellsOf 5 = 1 by kernel_rfl, run_eqItems8 Tryd.underlying5 9998 h h w _ (fun j hj => by rw [List.mem_range] at hj; omega)]
  exact congrArg (fun b => Result.ok b w) (List.all_eq_true.2 fun i _ => by simp)
theorem find_none (k : Value) (w : World) : (Instr.findKey 33 k []).run Tryd.prog w = .ok none w := by
  rw [run_findKey_eq (P := Tryd.prog) w (k := 33) (by kernel_rfl)]; simp only [Instr.findAsking, Sem.run_pure]
theorem find_one (h : List UInt8) (hh : h.length = 32) (v : Value) (b : Nat) (w : World) : (Instr.findKey 33 (.agg (u8s h)) [⟨.agg (u8s h), v, b⟩]).run Tryd.prog w = .ok (some (0, v)) w := by
  rw [run_findKey_eq (P := Tryd.prog) w (k := 33) (by kernel_rfl)]; simp only [Instr.findAsking, Sem.run_bind, key_selfK h hh w, Result.andThen_ok, if_true, Sem.run_pure]
theorem zero_int (w : World) : (zeroValue 3).run Tryd.prog w = .ok (.int .i64 0) w := by kernel_rfl
def esK (D : List UInt8) : Nat → Array MapEntry
  | 0 => #[]
  | _ + 1 => #[⟨.agg (u8s D), .int .i64 0, 0⟩]
def MapK (w : World) (r : Nat) (D : List UInt8) (k : Nat) : Prop := ∃ c, w.heap[r]? = some (.map (esK D k) c) ∧ (k = 0 → c = 0)
theorem MapK.step {w w' : World} {r k : Nat} {D : List UInt8} (h : MapK w r D k) (hb : Below w.heap.size w w') : MapK w' r D k := by
  obtain ⟨c, h1, h2⟩ := h
  exact ⟨c, by rw [hb.block r (Array.getElem?_eq_some_iff.1 h1).1]; exact h1, h2⟩
theorem look_none {w : World} {r : Nat} {D : List UInt8} (h : MapK w r D 0) (hD : D.length = 32) : (Instr.lookup 139 (.map (some r)) (.agg (u8s D)) true).run Tryd.prog w = .ok (.tuple #[.int .i64 0, .bool false]) w := by
  obtain ⟨c, h1, _⟩ := h
  simp [Instr.lookup, run_underlying Tryd.underlying139, MapKept.run_getObj_map h1, esK, run_check8 _ D hD, find_none, zero_int, Result.andThen]
theorem look_one {w : World} {r k : Nat} {D : List UInt8} (h : MapK w r D (k + 1)) (hD : D.length = 32) : (Instr.lookup 139 (.map (some r)) (.agg (u8s D)) true).run Tryd.prog w = .ok (.tuple #[.int .i64 0, .bool true]) w := by
  obtain ⟨c, h1, _⟩ := h
  simp [Instr.lookup, run_underlying Tryd.underlying139, MapKept.run_getObj_map h1, esK, run_check8 _ D hD, find_one D hD, Result.andThen]
theorem put_one {w : World} {r : Nat} {D : List UInt8} (h : MapK w r D 0) (hD : D.length = 32) : ∃ w', (Instr.mapUpdate 139 (.map (some r)) (.agg (u8s D)) (.int .i64 0)).run Tryd.prog w = .ok () w' ∧ MapK w' r D 1 ∧ Upd r w w' := by
  obtain ⟨c, h1, h2⟩ := h
  obtain rfl := h2 rfl
  have hlt := (Array.getElem?_eq_some_iff.1 h1).1
  refine ⟨{ w with heap := w.heap.setIfInBounds r (.map (esK D 1) 1) }, ?_, ⟨1, by simp [Array.getElem?_setIfInBounds, hlt], fun h => by omega⟩, rfl, rfl, rfl, by simp, fun k hk hne => by simp [Array.getElem?_setIfInBounds, Ne.symm hne]⟩
  simp [Instr.mapUpdate, run_underlying Tryd.underlying139, MapKept.run_getObj_map h1, MapKept.run_setObj_map _ h1, esK, run_check8 _ D hD, find_none, Result.andThen]
end Go.Proofs.YtopmdbmnlflpgaaDoor
