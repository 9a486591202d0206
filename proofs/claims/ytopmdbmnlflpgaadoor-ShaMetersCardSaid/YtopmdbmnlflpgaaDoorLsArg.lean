/- A list of byte slices as an argument (seat t02, without the trail's texts). -/
import Derived.Test.YtopmdbmnlflpgaaDoorFacts
import Derived.Test.YtopmdbmnlflpgaaDoorLists
import Derived.Test.YtopmdbmnlflpgaaDoorOpen
import Derived.Test.YtopmdbmnlflpgaaDoorJoin
namespace Go.Proofs.YtopmdbmnlflpgaaDoor
open Go.ChangeShapes Go.WideShapes Go.ChangeAt Go.RowKit
def RdLm (w : World) (B : Nat) (A : Option Addr) (ls : List (List UInt8)) : Prop := 0 < ls.length → ∃ g o, A = some ⟨g, o, none⟩ ∧ g < B ∧ ∀ i, i < ls.length → ∃ Ai ci, w.cell? ⟨g, o + i, none⟩ = some (.slice Ai (nthL ls i).length ci) ∧ (nthL ls i).length ≤ ci ∧ Rd8 w B Ai (nthL ls i)
section
variable {H : Type} {enc : TypeId × Value → H} {w : World} {base : Nat} {spare : Nat → Bool} {held : Bool} {r : Reach} {b0 fuel : Nat} {v : Value} {d : DataW H} {ps : List MemPlace} {x : DataW H × List MemPlace}
set_option maxRecDepth 100000 in
theorem arg_listsM (hval : Value.okWide Tryd.prog w r b0 42 v) (hd : DataW.Trod enc Tryd.prog w base spare held 42 v d ps) :
    ∃ A c ls, v = .slice A (List.length ls) c ∧ List.length ls ≤ c ∧ RdLm w w.heap.size A ls := by
  obtain ⟨a, n, c, rfl⟩ := okWide_slice Tryd.underlying42 hval
  obtain ⟨fuel, hf⟩ := hd
  obtain ⟨hnc, hel⟩ := elems_of (k := 1) Tryd.underlying42 (by kernel_rfl) (by omega) (by simpa [Value.cells] using hf)
  by_cases hn : 0 < n
  · obtain ⟨g, o, rfl, hg, hcs⟩ := hel hn
    have hex : ∀ i, ∃ u : List UInt8, i < n → ∃ Ai ci, w.cell? ⟨g, o + i, none⟩ = some (.slice Ai u.length ci) ∧ u.length ≤ ci ∧ Rd8 w w.heap.size Ai u := fun i => by
      by_cases hi : i < n
      · obtain ⟨cs, y, fu, hl, hc1, hy⟩ := hcs i hi
        obtain ⟨Ai, ni, ci, rfl⟩ := cellsOf_slice1 Tryd.underlying27 hy
        obtain ⟨l, rfl, hlc, hrd⟩ := trod_bytes Tryd.underlying27 Tryd.underlying5 (by kernel_rfl) hy
        exact ⟨l, fun _ => ⟨Ai, ci, by have := hc1 0 (by omega); simpa using this, hlc, hrd⟩⟩
      · exact ⟨[], fun h => absurd h hi⟩
    let f : Nat → List UInt8 := fun i => Classical.choose (hex i)
    refine ⟨_, c, (List.range n).map f, by simp, by simpa using hnc, fun _ => ⟨g, o, rfl, hg, fun i hi => ?_⟩⟩
    have hi' : i < n := by simpa using hi
    have e1 : nthL ((List.range n).map f) i = f i := by rw [nthL_def]; simp [List.getD, hi']
    rw [e1]
    exact Classical.choose_spec (hex i) hi'
  · obtain rfl : n = 0 := by omega
    exact ⟨a, c, [], rfl, by simp, fun h => by simp at h⟩
end
end Go.Proofs.YtopmdbmnlflpgaaDoor
