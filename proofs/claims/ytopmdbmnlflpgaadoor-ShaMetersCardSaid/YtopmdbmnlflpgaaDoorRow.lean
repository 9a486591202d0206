/- A block that is a row of cells, in a world that goes on: what a loop's relation says of its own arrays. No program. -/
import Derived.Test.YtopmdbmnlflpgaaDoorBase
namespace Go.Proofs.YtopmdbmnlflpgaaDoor
open Go.RowKit
theorem isRow_drewN (w : World) (n g : Nat) : IsRow (w.drewN n) g = IsRow w g := rfl
theorem isRow_drew (w : World) (g : Nat) : IsRow w.drew g = IsRow w g := rfl
theorem isRow_alloc (w : World) (g : Nat) (o : Obj) (h : g < w.heap.size) : IsRow (w.alloc o) g = IsRow w g := by
  unfold IsRow; rw [Below.heap_alloc _ _ _ h]
theorem isRow_setRow (w : World) (g k : Nat) (cs : Array Value) : IsRow (w.setRow k cs) g = IsRow w g := by
  unfold IsRow
  simp only [World.setRow, Array.getElem?_modify]
  by_cases hk : k = g
  · subst hk
    rw [if_pos rfl]
    cases hw : w.heap[k]? with
    | none => simp
    | some o =>
      cases o with
      | cells c t z =>
        simp only [Option.map_some]
        apply propext
        constructor
        · rintro ⟨a, b, h⟩; simp at h; exact ⟨c, t, by simp [h]⟩
        · rintro ⟨a, b, h⟩; simp at h; exact ⟨cs, t, by simp [h]⟩
      | _ => simp
  · rw [if_neg hk]
theorem rowOf_setRow_ne (w : World) (g k : Nat) (cs : Array Value) (h : g ≠ k) : rowOf (w.setRow k cs) g = rowOf w g := by
  unfold rowOf
  have : (w.setRow k cs).heap[g]? = w.heap[g]? := by
    simp only [World.setRow, Array.getElem?_modify]
    rw [if_neg (fun e => h e.symm)]
  rw [this]
theorem below_setRow {B : Nat} {a w : World} (h : Below B a w) {g : Nat} (hg : B ≤ g) (cs : Array Value) : Below B a (w.setRow g cs) :=
  h.trans ⟨rfl, rfl, rfl, by simp [World.setRow], fun k hk => by
    simp only [World.setRow, Array.getElem?_modify]
    rw [if_neg (by omega)]⟩
/-- block g is a row that holds these cells -/
structure RowIs (w : World) (g : Nat) (cs : Array Value) : Prop where
  row : IsRow w g
  has : rowOf w g = cs
theorem RowIs.eq {w : World} {g : Nat} {cs : Array Value} (h : RowIs w g cs) : w = w.setRow g cs := (setRow_same w g cs h.has h.row).symm
theorem RowIs.new (w : World) (cs : Array Value) (t : TypeId) : RowIs (w.alloc (.cells cs t)) w.heap.size cs := ⟨IsRow.new w cs t, by rw [rowOf_alloc, if_neg (by omega), if_pos rfl]; rfl⟩
theorem RowIs.new' {w : World} {cs : Array Value} {t : TypeId} {g : Nat} (h : g = w.heap.size) : RowIs (w.alloc (.cells cs t)) g cs := by subst h; exact RowIs.new w cs t
theorem RowIs.alloc {w : World} {g : Nat} {cs : Array Value} (h : RowIs w g cs) (o : Obj) : RowIs (w.alloc o) g cs :=
  ⟨by rw [isRow_alloc _ _ _ h.row.lt]; exact h.row, by rw [rowOf_alloc, if_pos h.row.lt]; exact h.has⟩
theorem RowIs.drewN {w : World} {g : Nat} {cs : Array Value} (h : RowIs w g cs) (n : Nat) : RowIs (w.drewN n) g cs := ⟨h.1, h.2⟩
theorem RowIs.drew {w : World} {g : Nat} {cs : Array Value} (h : RowIs w g cs) : RowIs w.drew g cs := ⟨h.1, h.2⟩
theorem RowIs.set {w : World} {g : Nat} {cs : Array Value} (h : RowIs w g cs) (cs' : Array Value) : RowIs (w.setRow g cs') g cs' :=
  ⟨by rw [isRow_setRow]; exact h.row, rowOf_setRow _ _ _ h.row⟩
theorem RowIs.set_ne {w : World} {g k : Nat} {cs : Array Value} (h : RowIs w g cs) (hk : g ≠ k) (cs' : Array Value) : RowIs (w.setRow k cs') g cs :=
  ⟨by rw [isRow_setRow]; exact h.row, by rw [rowOf_setRow_ne _ _ _ _ hk]; exact h.has⟩
theorem RowIs.below {w w' : World} {g B : Nat} {cs : Array Value} (h : RowIs w g cs) (hb : Below B w w') (hg : g < B) : RowIs w' g cs := by
  have e := hb.block g hg
  exact ⟨by unfold IsRow; rw [e]; exact h.row, by unfold rowOf; rw [e]; exact h.has⟩
theorem RowIs.lt {w : World} {g : Nat} {cs : Array Value} (h : RowIs w g cs) : g < w.heap.size := h.row.lt
theorem RowIs.rd {w : World} {g : Nat} {l : List UInt8} (h : RowIs w g (u8s l)) : Rd8 w w.heap.size (some ⟨g, 0, none⟩) l := rd8_of_row h.has h.lt
theorem rd8_part {w : World} {g : Nat} {l : List UInt8} (h : RowIs w g (u8s l)) (o n : Nat) : Rd8 w w.heap.size (some ⟨g, o, none⟩) ((l.drop o).take n) := by
  have := (h.rd.drop o).take n
  rwa [Nat.zero_add] at this
theorem isRow_cells (w : World) (g : Nat) (cs : Array Value) (t : TypeId) : IsRow (w.alloc (.cells cs t)) g = if g < w.heap.size then IsRow w g else g = w.heap.size := by
  split
  · rename_i h; exact isRow_alloc w g _ h
  · rename_i h
    apply propext
    constructor
    · intro hr
      have := hr.lt
      simp at this
      omega
    · rintro rfl; exact IsRow.new w cs t
attribute [go_sem] isRow_drewN isRow_drew isRow_cells isRow_setRow rowOf_setRow_ne
end Go.Proofs.YtopmdbmnlflpgaaDoor
