/- Arguments of layer 11: rows of things to do, and of bools. -/
import Derived.Test.YtbfloejpgjheiaaDev10
import Derived.Test.YtbfloejpgjheiaaLists
import Derived.Test.YtbfloejpgjheiaaOpen
namespace Go.Proofs.Ytbfloejpgjheiaa
open Go.ChangeShapes Go.WideShapes Go.ChangeAt Go.RowKit
section
variable {P : Program} {H : Type} {enc : TypeId × Value → H} {w : World} {base : Nat} {spare : Nat → Bool} {held : Bool} {r : Reach} {b0 fuel : Nat} {t e : TypeId} {v : Value} {d : DataW H} {ps : List MemPlace} {x : DataW H × List MemPlace}
theorem trod_bools (ht : P.underlying t = some (.slice e)) (he : P.underlying e = some .bool) (hc : P.cellsOf e = 1) {A : Option Addr} {n c : Nat} (h : DataW.trod enc P w base spare held fuel t [.slice A n c] = some x) :
    ∃ l : List Bool, n = l.length ∧ n ≤ c ∧ RdB w w.heap.size A l := by
  obtain ⟨hnc, hel⟩ := elems_of ht hc (by omega) h
  by_cases hn : 0 < n
  · obtain ⟨g, o, rfl, hg, hcs⟩ := hel hn
    have hex : ∀ i, ∃ u : Bool, i < n → w.cell? ⟨g, o + i, none⟩ = some (.bool u) := fun i => by
      by_cases hi : i < n
      · obtain ⟨cs, y, fu, hl, hc1, hy⟩ := hcs i hi
        obtain ⟨u, rfl⟩ := trod_boolW he hy
        exact ⟨u, fun _ => by have := hc1 0 (by omega); simpa using this⟩
      · exact ⟨false, fun h => absurd h hi⟩
    let f : Nat → Bool := fun i => Classical.choose (hex i)
    refine ⟨(List.range n).map f, by simp, hnc, fun _ => ⟨g, o, rfl, hg, fun i hi => ?_⟩⟩
    have hi' : i < n := by simpa using hi
    have e1 : ((List.range n).map f).getD i false = f i := by simp [List.getD, hi']
    rw [e1]
    exact Classical.choose_spec (hex i) hi'
  · obtain rfl : n = 0 := by omega
    exact ⟨[], rfl, hnc, RdB.nil _ _ _⟩
theorem arg_bools (ht : P.underlying t = some (.slice e)) (he : P.underlying e = some .bool) (hc : P.cellsOf e = 1) (hval : Value.okWide P w r b0 t v) (hd : DataW.Trod enc P w base spare held t v d ps) :
    ∃ A c l, v = .slice A (List.length l) c ∧ l.length ≤ c ∧ RdB w w.heap.size A l := by
  obtain ⟨a, n, c, rfl⟩ := okWide_slice ht hval
  obtain ⟨fuel, hf⟩ := hd
  obtain ⟨l, rfl, hl, hr⟩ := trod_bools ht he hc (by simpa [Value.cells] using hf)
  exact ⟨a, c, l, rfl, hl, hr⟩
end
section
variable {H : Type} {enc : TypeId × Value → H} {w : World} {base : Nat} {spare : Nat → Bool} {held : Bool} {r : Reach} {b0 fuel : Nat} {v : Value} {d : DataW H} {ps : List MemPlace} {x : DataW H × List MemPlace}
theorem list4 {α : Type} {l : List α} (h : l.length = 4) : ∃ a b c d, l = [a, b, c, d] := by
  match l, h with
  | [a, b, c, d], _ => exact ⟨a, b, c, d, rfl⟩
theorem trod_op {cs : List Value} (hl : cs.length = 4) (h : DataW.trod enc Try.prog w base spare held fuel 36 cs = some x) {g o : Nat} (hc : ∀ j, j < 4 → w.cell? ⟨g, o + j, none⟩ = cs[j]?) : ∃ y, OpV.At w w.heap.size g o y := by
  obtain ⟨xs, n, _, _, _, hlen, hf⟩ := DataW.trod_struct Try.underlying36 h
  obtain ⟨a, b, c, e, rfl⟩ := list4 hl
  have c1 : Try.prog.cellsOf 3 = 1 := by kernel_rfl
  have c2 : Try.prog.cellsOf 29 = 1 := by kernel_rfl
  have c3 : Try.prog.cellsOf 23 = 1 := by kernel_rfl
  have x4 : xs.length = 4 := hlen
  obtain ⟨y0, y1, y2, y3, rfl⟩ := list4 x4
  have f0 := hf 0 _ rfl
  have f1 := hf 1 _ rfl
  have f2 := hf 2 _ rfl
  have f3 := hf 3 _ rfl
  change DataW.trod enc Try.prog w base spare held n 3 (([a, b, c, e].drop 0).take (Try.prog.cellsOf 3)) = some y0 at f0
  change DataW.trod enc Try.prog w base spare held n 3 (([a, b, c, e].drop 1).take (Try.prog.cellsOf 3)) = some y1 at f1
  change DataW.trod enc Try.prog w base spare held n 29 (([a, b, c, e].drop 2).take (Try.prog.cellsOf 29)) = some y2 at f2
  change DataW.trod enc Try.prog w base spare held n 23 (([a, b, c, e].drop 3).take (Try.prog.cellsOf 23)) = some y3 at f3
  rw [c1] at f0 f1
  rw [c2] at f2
  rw [c3] at f3
  obtain ⟨z0, h0, _, w0⟩ := DataW.trod_int Try.underlying3 f0
  obtain ⟨z1, h1, _, w1⟩ := DataW.trod_int Try.underlying3 f1
  obtain ⟨A2, n2, k2, h2⟩ := cellsOf_slice1 Try.underlying29 f2
  obtain ⟨A3, n3, k3, h3⟩ := cellsOf_slice1 Try.underlying23 f3
  rw [h2] at f2
  rw [h3] at f3
  obtain ⟨l2, rfl, m2, r2⟩ := trod_bytes Try.underlying29 Try.underlying5 (by kernel_rfl) f2
  obtain ⟨l3, rfl, m3, r3⟩ := trod_bools Try.underlying23 Try.underlying4 (by kernel_rfl) f3
  simp at h0 h1 h2 h3
  subst h0 h1 h2 h3
  have e0 := hc 0 (by omega)
  have e1 := hc 1 (by omega)
  have e2 := hc 2 (by omega)
  have e3 := hc 3 (by omega)
  simp at e0 e1 e2 e3
  have wf : -9223372036854775808 ≤ z1 ∧ z1 ≤ 9223372036854775807 := by
    have hb := bounds_i64 w1
    omega
  exact ⟨⟨z0, z1, A2, k2, l2, A3, k3, l3⟩, ⟨by simpa using e0, e1, e2, e3, m2, r2, m3, r3, wf.1, wf.2⟩⟩
theorem arg_ops (hval : Value.okWide Try.prog w r b0 22 v) (hd : DataW.Trod enc Try.prog w base spare held 22 v d ps) :
    ∃ A c xs, v = .slice A (List.length xs) c ∧ RdOps w w.heap.size A xs := by
  obtain ⟨a, n, c, rfl⟩ := okWide_slice Try.underlying22 hval
  obtain ⟨fuel, hf⟩ := hd
  obtain ⟨hnc, hel⟩ := elems_of (k := 4) Try.underlying22 (by kernel_rfl) (by omega) (by simpa [Value.cells] using hf)
  by_cases hn : 0 < n
  · obtain ⟨g, o, rfl, hg, hcs⟩ := hel hn
    have hex : ∀ i, ∃ u : OpV, i < n → OpV.At w w.heap.size g (o + i * 4) u := fun i => by
      by_cases hi : i < n
      · obtain ⟨cs, y, fu, hl, hc1, hy⟩ := hcs i hi
        obtain ⟨u, hu⟩ := trod_op hl hy (g := g) (o := o + i * 4) (fun j hj => by rw [Nat.add_assoc]; exact hc1 j hj)
        exact ⟨u, fun _ => hu⟩
      · exact ⟨op0, fun h => absurd h hi⟩
    let f : Nat → OpV := fun i => Classical.choose (hex i)
    refine ⟨_, c, (List.range n).map f, by simp, fun _ => ⟨g, o, rfl, hg, fun i hi => ?_⟩⟩
    have hi' : i < n := by simpa using hi
    have e1 : ((List.range n).map f).getD i op0 = f i := by simp [List.getD, hi']
    rw [e1]
    exact Classical.choose_spec (hex i) hi'
  · obtain rfl : n = 0 := by omega
    exact ⟨a, c, [], rfl, fun h => by simp at h⟩
end
end Go.Proofs.Ytbfloejpgjheiaa
