/- CodecWrites: what is written, as an argument. -/
import Derived.Test.YtifnpphkplogaaaCWr
namespace Go.Proofs.Ytifnpphkplogaaa
open Go.ChangeShapes Go.WideShapes Go.ChangeAt Go.RowKit
section
variable {H : Type} {enc : TypeId × Value → H} {w : World} {base : Nat} {spare : Nat → Bool} {held : Bool} {r : Reach} {b0 fuel : Nat} {v : Value} {d : DataW H} {ps : List MemPlace} {x : DataW H × List MemPlace}
theorem list5 {α : Type} {l : List α} (h : l.length = 5) : ∃ a b c d e, l = [a, b, c, d, e] := by
  match l, h with
  | [a, b, c, d, e], _ => exact ⟨a, b, c, d, e, rfl⟩
theorem trod_put {cs : List Value} (hl : cs.length = 5) (h : DataW.trod enc Try.prog w base spare held fuel 54 cs = some x) {g o : Nat} (hc : ∀ j, j < 5 → w.cell? ⟨g, o + j, none⟩ = cs[j]?) : ∃ y, ∃ Ab cb Al cl, PtRaw w g o y Ab cb Al cl := by
  obtain ⟨xs, n, _, _, _, hlen, hf⟩ := DataW.trod_struct Try.underlying54 h
  obtain ⟨a, a', b, c, e, rfl⟩ := list5 hl
  have c1 : Try.prog.cellsOf 3 = 1 := by kernel_rfl
  have c2 : Try.prog.cellsOf 40 = 1 := by kernel_rfl
  have c3 : Try.prog.cellsOf 25 = 1 := by kernel_rfl
  have c4 : Try.prog.cellsOf 41 = 1 := by kernel_rfl
  have x5 : xs.length = 5 := hlen
  obtain ⟨y0, y0', y1, y2, y3, rfl⟩ := list5 x5
  have f0 := hf 0 _ rfl
  have f0' := hf 1 _ rfl
  have f1 := hf 2 _ rfl
  have f2 := hf 3 _ rfl
  have f3 := hf 4 _ rfl
  change DataW.trod enc Try.prog w base spare held n 3 (([a, a', b, c, e].drop 0).take (Try.prog.cellsOf 3)) = some y0 at f0
  change DataW.trod enc Try.prog w base spare held n 3 (([a, a', b, c, e].drop 1).take (Try.prog.cellsOf 3)) = some y0' at f0'
  change DataW.trod enc Try.prog w base spare held n 40 (([a, a', b, c, e].drop 2).take (Try.prog.cellsOf 40)) = some y1 at f1
  change DataW.trod enc Try.prog w base spare held n 25 (([a, a', b, c, e].drop 3).take (Try.prog.cellsOf 25)) = some y2 at f2
  change DataW.trod enc Try.prog w base spare held n 41 (([a, a', b, c, e].drop 4).take (Try.prog.cellsOf 41)) = some y3 at f3
  rw [c1] at f0 f0'
  rw [c2] at f1
  rw [c3] at f2
  rw [c4] at f3
  obtain ⟨z0, h0, _, w0⟩ := DataW.trod_int Try.underlying3 f0
  obtain ⟨z0', h0', _, w0'⟩ := DataW.trod_int Try.underlying3 f0'
  obtain ⟨z1, h1, _, w1⟩ := DataW.trod_int Try.underlying40 f1
  obtain ⟨u1, rfl⟩ := wf64 w1
  obtain ⟨A2, n2, k2, h2⟩ := cellsOf_slice1 Try.underlying25 f2
  obtain ⟨A3, n3, k3, h3⟩ := cellsOf_slice1 Try.underlying41 f3
  rw [h2] at f2
  rw [h3] at f3
  obtain ⟨l2, rfl, m2, r2⟩ := trod_bytes Try.underlying25 Try.underlying5 (by kernel_rfl) f2
  obtain ⟨ks, rfl, r3, hk3⟩ := trod_keys f3
  simp at h0 h0' h1 h2 h3
  subst h0 h0' h1 h2 h3
  have e0 := hc 0 (by omega)
  have e0' := hc 1 (by omega)
  have e1 := hc 2 (by omega)
  have e2 := hc 3 (by omega)
  have e3 := hc 4 (by omega)
  simp at e0 e0' e1 e2 e3
  exact ⟨⟨z0, z0', u1, l2, ks⟩, A2, k2, A3, k3, ⟨by simpa using e0, e0', e1, e2, e3, m2, r2, r3, hk3⟩⟩
set_option maxRecDepth 100000 in
theorem arg_puts (hval : Value.okWide Try.prog w r b0 46 v) (hd : DataW.Trod enc Try.prog w base spare held 46 v d ps) :
    ∃ xs, PutsL w v xs := by
  obtain ⟨a, n, c, rfl⟩ := okWide_slice Try.underlying46 hval
  obtain ⟨fuel, hf⟩ := hd
  obtain ⟨hnc, hel⟩ := elems_of (k := 5) Try.underlying46 (by kernel_rfl) (by omega) (by simpa [Value.cells] using hf)
  by_cases hn : 0 < n
  · obtain ⟨g, o, rfl, hg, hcs⟩ := hel hn
    have hex : ∀ i, ∃ u : PtP, i < n → ∃ Ab cb Al cl, PtRaw w g (o + i * 5) u Ab cb Al cl := fun i => by
      by_cases hi : i < n
      · obtain ⟨cs, y, fu, hl, hc1, hy⟩ := hcs i hi
        obtain ⟨u, hu⟩ := trod_put hl hy (g := g) (o := o + i * 5) (fun j hj => by rw [Nat.add_assoc]; exact hc1 j hj)
        exact ⟨u, fun _ => hu⟩
      · exact ⟨⟨0, 0, 0, [], []⟩, fun h => absurd h hi⟩
    let f : Nat → PtP := fun i => Classical.choose (hex i)
    refine ⟨(List.range n).map f, _, c, by simp, by simpa using hnc, fun _ => ⟨g, o, rfl, hg, fun i hi => ?_⟩⟩
    have hi' : i < n := by simpa using hi
    have e1 : nthP ((List.range n).map f) i = f i := by rw [nthP_def]; simp [List.getD, hi']
    rw [e1]
    exact Classical.choose_spec (hex i) hi'
  · obtain rfl : n = 0 := by omega
    exact ⟨[], a, c, rfl, by simp, fun h => by simp at h⟩
end
end Go.Proofs.Ytifnpphkplogaaa
