/- Layer 26: an argument that is a list of Events. -/
import Derived.Test.YtlfplikkifjnfaaMdl6
import Derived.Test.YtlfplikkifjnfaaSzd
import Derived.Test.YtlfplikkifjnfaaOpen
namespace Go.Proofs.Ytlfplikkifjnfaa
open Go.ChangeShapes Go.WideShapes Go.ChangeAt Go.RowKit
variable {H : Type} {enc : TypeId × Value → H} {w : World} {base : Nat} {spare : Nat → Bool} {held : Bool} {r : Reach} {b0 fuel : Nat} {v : Value} {d : DataW H} {ps : List MemPlace} {x : DataW H × List MemPlace}
theorem list4 {α : Type} {l : List α} (h : l.length = 4) : ∃ a b c d, l = [a, b, c, d] := by
  match l, h with
  | [a, b, c, d], _ => exact ⟨a, b, c, d, rfl⟩
theorem trod_ev {cs : List Value} (hl : cs.length = 4) (h : DataW.trod enc Try.prog w base spare held fuel 36 cs = some x) (hL : Light Try.prog 36 x.1) : ∃ (y : Ev) (v : Value), cs = evL y.d y.who y.code v ∧ BsB w w.heap.size v y.b := by
  obtain ⟨xs, n, _, hx, _, hlen, hf⟩ := DataW.trod_struct Try.underlying36 h
  obtain ⟨a, b, c, e, rfl⟩ := list4 hl
  have c1 : Try.prog.cellsOf 3 = 1 := by kernel_rfl
  have c2 : Try.prog.cellsOf 33 = 1 := by kernel_rfl
  have c3 : Try.prog.cellsOf 34 = 1 := by kernel_rfl
  have x4 : xs.length = 4 := hlen
  obtain ⟨y0, y1, y2, y3, rfl⟩ := list4 x4
  have f0 := hf 0 _ rfl
  have f1 := hf 1 _ rfl
  have f2 := hf 2 _ rfl
  have f3 := hf 3 _ rfl
  have hL3 : Light Try.prog 34 y3.1 := by
    rw [hx] at hL
    exact light_field (i := 3) (y := y3) Try.underlying36 hL rfl rfl
  change DataW.trod enc Try.prog w base spare held n 3 (([a, b, c, e].drop 0).take (Try.prog.cellsOf 3)) = some y0 at f0
  change DataW.trod enc Try.prog w base spare held n 3 (([a, b, c, e].drop 1).take (Try.prog.cellsOf 3)) = some y1 at f1
  change DataW.trod enc Try.prog w base spare held n 33 (([a, b, c, e].drop 2).take (Try.prog.cellsOf 33)) = some y2 at f2
  change DataW.trod enc Try.prog w base spare held n 34 (([a, b, c, e].drop 3).take (Try.prog.cellsOf 34)) = some y3 at f3
  rw [c1] at f0 f1
  rw [c2] at f2
  rw [c3] at f3
  obtain ⟨z0, h0, _, w0⟩ := DataW.trod_int Try.underlying3 f0
  obtain ⟨z1, h1, _, w1⟩ := DataW.trod_int Try.underlying3 f1
  obtain ⟨z2, h2, _, w2⟩ := DataW.trod_int Try.underlying33 f2
  obtain ⟨A3, n3, k3, h3⟩ := cellsOf_slice1 Try.underlying34 f3
  rw [h3] at f3
  have hn3 := light_len Try.underlying34 (by kernel_rfl) (by kernel_rfl) f3 hL3
  obtain ⟨l3, rfl, m3, r3⟩ := trod_bytes Try.underlying34 Try.underlying5 (by kernel_rfl) f3
  simp at h0 h1 h2 h3
  subst h0 h1 h2 h3
  exact ⟨⟨z0, z1, z2, l3⟩, _, rfl, A3, k3, rfl, m3, hn3, r3⟩
theorem arg_events (hval : Value.okWide Try.prog w r b0 23 v) (hd : DataW.Trod enc Try.prog w base spare held 23 v d ps) (hL : Light Try.prog 23 d) :
    ∃ A c xs, v = .slice A (List.length xs) c ∧ xs.length ≤ c ∧ RdEv w w.heap.size A xs := by
  obtain ⟨a, n, c, rfl⟩ := okWide_slice Try.underlying23 hval
  obtain ⟨fuel, hf⟩ := hd
  obtain ⟨hnc, -, hel⟩ := elems_light (k := 4) Try.underlying23 (by kernel_rfl) (by omega) (by simpa [Value.cells] using hf) hL
  by_cases hn : 0 < n
  · obtain ⟨g, o, rfl, hg, hcs⟩ := hel hn
    have hex : ∀ i, ∃ u : Ev, i < n → ∃ v, w.rangeAt g (o + i * 4) (evL u.d u.who u.code v) ∧ BsB w w.heap.size v u.b := fun i => by
      by_cases hi : i < n
      · obtain ⟨cs, y, fu, hl, hc1, hy, hly⟩ := hcs i hi
        obtain ⟨u, v, rfl, hb⟩ := trod_ev hl hy hly
        refine ⟨u, fun _ => ⟨v, fun j z hz => ?_, hb⟩⟩
        have hj : j < 4 := (List.getElem?_eq_some_iff.1 hz).1
        have := hc1 j hj
        rw [← Nat.add_assoc] at this
        rw [this]; exact hz
      · exact ⟨⟨0, 0, 0, []⟩, fun h => absurd h hi⟩
    let f : Nat → Ev := fun i => Classical.choose (hex i)
    refine ⟨_, c, (List.range n).map f, by simp, by simpa using hnc, fun _ => ⟨g, o, rfl, hg, fun i hi => ?_⟩⟩
    have hi' : i < n := by simpa using hi
    have e1 : nthE ((List.range n).map f) i = f i := by rw [nthE_def]; simp [List.getD, hi']
    rw [e1]
    exact Classical.choose_spec (hex i) hi'
  · obtain rfl : n = 0 := by omega
    exact ⟨a, c, [], rfl, by simp, fun h => by simp at h⟩
end Go.Proofs.Ytlfplikkifjnfaa
