/- Arguments of layer 13: rows of things to do. -/
import Derived.Test.YtopmdbmnlflpgaaDoorFacts
import Derived.Test.YtopmdbmnlflpgaaDoorLists
import Derived.Test.YtopmdbmnlflpgaaDoorOpen
namespace Go.Proofs.YtopmdbmnlflpgaaDoor
open Go.ChangeShapes Go.WideShapes Go.ChangeAt Go.RowKit
/-- a thing to do with a source -/
structure DOp where
  d : Int
  one : List UInt8
  two : List UInt8
  n : UInt64
def DOp.At (w : World) (g o : Nat) (y : DOp) : Prop :=
  w.cell? ⟨g, o, none⟩ = some (.int .i64 y.d) ∧ w.cell? ⟨g, o + 1, none⟩ = some (.string ⟨y.one.toArray⟩) ∧ w.cell? ⟨g, o + 2, none⟩ = some (.string ⟨y.two.toArray⟩) ∧ w.cell? ⟨g, o + 3, none⟩ = some (.int .u64 (n64 y.n))
def dop0 : DOp := ⟨0, [], [], 0⟩
def RdDOps (w : World) (B : Nat) (A : Option Addr) (xs : List DOp) : Prop := 0 < xs.length → ∃ g o, A = some ⟨g, o, none⟩ ∧ g < B ∧ ∀ i, i < xs.length → DOp.At w g (o + i * 4) (xs.getD i dop0)
section
variable {H : Type} {enc : TypeId × Value → H} {w : World} {base : Nat} {spare : Nat → Bool} {held : Bool} {r : Reach} {b0 fuel : Nat} {v : Value} {d : DataW H} {ps : List MemPlace} {x : DataW H × List MemPlace}
theorem list4 {α : Type} {l : List α} (h : l.length = 4) : ∃ a b c d, l = [a, b, c, d] := by
  match l, h with
  | [a, b, c, d], _ => exact ⟨a, b, c, d, rfl⟩
theorem trod_dop {cs : List Value} (hl : cs.length = 4) (h : DataW.trod enc Tryd.prog w base spare held fuel 87 cs = some x) {g o : Nat} (hc : ∀ j, j < 4 → w.cell? ⟨g, o + j, none⟩ = cs[j]?) : ∃ y, DOp.At w g o y := by
  obtain ⟨xs, n, _, _, _, hlen, hf⟩ := DataW.trod_struct Tryd.underlying87 h
  obtain ⟨a, b, c, e, rfl⟩ := list4 hl
  have c1 : Tryd.prog.cellsOf 3 = 1 := by kernel_rfl
  have c2 : Tryd.prog.cellsOf 9 = 1 := by kernel_rfl
  have c3 : Tryd.prog.cellsOf 38 = 1 := by kernel_rfl
  have x4 : xs.length = 4 := hlen
  obtain ⟨y0, y1, y2, y3, rfl⟩ := list4 x4
  have f0 := hf 0 _ rfl
  have f1 := hf 1 _ rfl
  have f2 := hf 2 _ rfl
  have f3 := hf 3 _ rfl
  change DataW.trod enc Tryd.prog w base spare held n 3 (([a, b, c, e].drop 0).take (Tryd.prog.cellsOf 3)) = some y0 at f0
  change DataW.trod enc Tryd.prog w base spare held n 9 (([a, b, c, e].drop 1).take (Tryd.prog.cellsOf 9)) = some y1 at f1
  change DataW.trod enc Tryd.prog w base spare held n 9 (([a, b, c, e].drop 2).take (Tryd.prog.cellsOf 9)) = some y2 at f2
  change DataW.trod enc Tryd.prog w base spare held n 38 (([a, b, c, e].drop 3).take (Tryd.prog.cellsOf 38)) = some y3 at f3
  rw [c1] at f0
  rw [c2] at f1 f2
  rw [c3] at f3
  obtain ⟨z0, h0, _, w0⟩ := DataW.trod_int Tryd.underlying3 f0
  obtain ⟨s1, h1, _⟩ := DataW.trod_string Tryd.underlying9 f1
  obtain ⟨s2, h2, _⟩ := DataW.trod_string Tryd.underlying9 f2
  obtain ⟨z3, h3, _, w3⟩ := DataW.trod_int Tryd.underlying38 f3
  obtain ⟨n3, rfl⟩ := wf64 w3
  simp at h0 h1 h2 h3
  subst h0 h1 h2 h3
  have e0 := hc 0 (by omega)
  have e1 := hc 1 (by omega)
  have e2 := hc 2 (by omega)
  have e3 := hc 3 (by omega)
  simp at e0 e1 e2 e3
  exact ⟨⟨z0, s1.data.toList, s2.data.toList, n3⟩, by simpa using e0, by rw [e1], by rw [e2], e3⟩
set_option maxRecDepth 100000 in
theorem arg_dops (hval : Value.okWide Tryd.prog w r b0 80 v) (hd : DataW.Trod enc Tryd.prog w base spare held 80 v d ps) :
    ∃ A c xs, v = .slice A (List.length xs) c ∧ RdDOps w w.heap.size A xs := by
  obtain ⟨a, n, c, rfl⟩ := okWide_slice Tryd.underlying80 hval
  obtain ⟨fuel, hf⟩ := hd
  obtain ⟨hnc, hel⟩ := elems_of (k := 4) Tryd.underlying80 (by kernel_rfl) (by omega) (by simpa [Value.cells] using hf)
  by_cases hn : 0 < n
  · obtain ⟨g, o, rfl, hg, hcs⟩ := hel hn
    have hex : ∀ i, ∃ u : DOp, i < n → DOp.At w g (o + i * 4) u := fun i => by
      by_cases hi : i < n
      · obtain ⟨cs, y, fu, hl, hc1, hy⟩ := hcs i hi
        obtain ⟨u, hu⟩ := trod_dop hl hy (g := g) (o := o + i * 4) (fun j hj => by rw [Nat.add_assoc]; exact hc1 j hj)
        exact ⟨u, fun _ => hu⟩
      · exact ⟨dop0, fun h => absurd h hi⟩
    let f : Nat → DOp := fun i => Classical.choose (hex i)
    refine ⟨_, c, (List.range n).map f, by simp, fun _ => ⟨g, o, rfl, hg, fun i hi => ?_⟩⟩
    have hi' : i < n := by simpa using hi
    have e1 : ((List.range n).map f).getD i dop0 = f i := by simp [List.getD, hi']
    rw [e1]
    exact Classical.choose_spec (hex i) hi'
  · obtain rfl : n = 0 := by omega
    exact ⟨a, c, [], rfl, fun h => by simp at h⟩
end
end Go.Proofs.YtopmdbmnlflpgaaDoor
