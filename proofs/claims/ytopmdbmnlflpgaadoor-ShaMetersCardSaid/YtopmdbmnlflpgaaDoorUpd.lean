/- A block of the call's own that turns: what stays. No program. -/
import Derived.Test.YtopmdbmnlflpgaaDoorBs
namespace Go.Proofs.YtopmdbmnlflpgaaDoor
open Go.RowKit
/-- all that was there stays, but for block g -/
structure Upd (g : Nat) (w w' : World) : Prop where
  os : w'.os = w.os
  tape : w'.tape = w.tape
  output : w'.output = w.output
  size : w.heap.size ≤ w'.heap.size
  block : ∀ k, k < w.heap.size → k ≠ g → w'.heap[k]? = w.heap[k]?
theorem Upd.of {g : Nat} {w w' : World} (h : Below w.heap.size w w') : Upd g w w' := ⟨h.os, h.tape, h.output, h.size, fun k hk _ => h.block k hk⟩
theorem Upd.refl (g : Nat) (w : World) : Upd g w w := Upd.of (Below.refl _ _)
theorem Upd.trans {g : Nat} {a b c : World} (h : Upd g a b) (k : Upd g b c) : Upd g a c :=
  ⟨k.os.trans h.os, k.tape.trans h.tape, k.output.trans h.output, Nat.le_trans h.size k.size, fun i hi hg => (k.block i (Nat.lt_of_lt_of_le hi h.size) hg).trans (h.block i hi hg)⟩
theorem Upd.put {g : Nat} {a w : World} (h : Upd g a w) (i : Nat) (v : Value) : Upd g a (w.setCell ⟨g, i, none⟩ v) :=
  h.trans ⟨rfl, rfl, rfl, by simp [World.setCell], fun k _ hk => Below.heap_setCell _ _ _ _ hk⟩
theorem Upd.setRow {g : Nat} {a w : World} (h : Upd g a w) {r : Nat} (hr : a.heap.size ≤ r) (cs : Array Value) : Upd g a (w.setRow r cs) :=
  ⟨h.os, h.tape, h.output, by have := h.size; simp [World.setRow]; exact this, fun k hk hg => by
    have e := (below_setRow (Below.refl r w) (Nat.le_refl _) cs).block k (by omega)
    rw [e]; exact h.block k hk hg⟩
theorem Upd.then {g : Nat} {a w w' : World} (h : Upd g a w) (hb : Below w.heap.size w w') : Upd g a w' := h.trans (Upd.of hb)
theorem Upd.below {g B : Nat} {a w w' : World} (hb : Below B a w) (h : Upd g w w') (hg : B ≤ g) (hB : B ≤ w.heap.size) : Below B a w' :=
  hb.trans ⟨h.os, h.tape, h.output, h.size, fun k hk => h.block k (by omega) (by omega)⟩
theorem Upd.cell {g : Nat} {w w' : World} (h : Upd g w w') {p : Addr} (hp : p.block < w.heap.size) (hg : p.block ≠ g) : w'.cell? p = w.cell? p := World.cell?_of_block (w := w) (h.block p.block hp hg)
theorem RowIs.upd {w w' : World} {r g : Nat} {cs : Array Value} (h : RowIs w r cs) (hu : Upd g w w') (hg : r ≠ g) : RowIs w' r cs := by
  have e := hu.block r h.lt hg
  exact ⟨by unfold IsRow; rw [e]; exact h.row, by unfold rowOf; rw [e]; exact h.has⟩
/-- no byte stands in the block -/
def No8 (w : World) (g : Nat) : Prop := ∀ i b, w.cell? ⟨g, i, none⟩ ≠ some (.int .u8 b)
def NoSl (w : World) (g : Nat) (k : Nat) : Prop := ∀ i A n c, w.cell? ⟨g, i, none⟩ = some (.slice A n c) → i = k
theorem Rd8.upd {w w' : World} {A : Option Addr} {l : List UInt8} {g : Nat} (h : Rd8 w w.heap.size A l) (hu : Upd g w w') (hn : No8 w g) : Rd8 w' w'.heap.size A l := fun h0 => by
  obtain ⟨b, o, rfl, hb, hc⟩ := h h0
  have hg : b ≠ g := by
    rintro rfl
    have := hc 0 (by omega)
    exact hn _ _ this
  exact ⟨b, o, rfl, Nat.lt_of_lt_of_le hb hu.size, fun i hi => (hu.cell hb hg).trans (hc i hi)⟩
theorem Bs.upd {w w' : World} {v : Value} {l : List UInt8} {g : Nat} (h : Bs w v l) (hu : Upd g w w') (hn : No8 w g) : Bs w' v l := by
  obtain ⟨A, c, h1, h2, h3, h4⟩ := h
  exact ⟨A, c, h1, h2, h3, h4.upd hu hn⟩
theorem no8_row {w : World} {g : Nat} {cs : Array Value} (h : RowIs w g cs) (hn : cs.all (fun v => match v with | .int .u8 _ => false | _ => true) = true) : No8 w g := by
  intro i b hc
  obtain ⟨t, ht⟩ := h.row.heap
  rw [h.has] at ht
  rw [cell_of_row _ _ _ _ t (0, 0) ht] at hc
  have hi : i < cs.size := by
    rcases Nat.lt_or_ge i cs.size with h | h
    · exact h
    · rw [Array.getElem?_eq_none h] at hc; cases hc
  rw [Array.getElem?_eq_getElem hi] at hc
  have := Array.all_eq_true.1 hn i hi
  rw [Option.some.inj hc] at this
  simp at this
end Go.Proofs.YtopmdbmnlflpgaaDoor
