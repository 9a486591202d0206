/- Layer 9: arguments: items, numbers, keys in slices. -/
import Derived.Test.YtifnpphkplogaaaEncW
import Derived.Test.YtifnpphkplogaaaDecW
import Derived.Test.YtifnpphkplogaaaLists
import Derived.Test.YtifnpphkplogaaaOpen
namespace Go.Proofs.Ytifnpphkplogaaa
open Go.ChangeShapes Go.WideShapes Go.ChangeAt Go.RowKit
/-- an item in memory as it was handed in: no bound on its bytes -/
structure ItRaw (w : World) (g o : Nat) (x : ItP) (Ab : Option Addr) (cb : Nat) (vl : Value) : Prop where
  c0 : w.cell? ⟨g, o, none⟩ = some (.int .i64 x.kind)
  c1 : w.cell? ⟨g, o + 1, none⟩ = some (.int .u64 (n64 x.n))
  c2 : w.cell? ⟨g, o + 2, none⟩ = some (.slice Ab x.b.length cb)
  c3 : w.cell? ⟨g, o + 3, none⟩ = some vl
  bc : x.b.length ≤ cb
  b : Rd8 w w.heap.size Ab x.b
  l : KsL w vl x.l
  k : itKeys x
theorem ItRaw.step {w w' : World} {g o : Nat} {x : ItP} {Ab : Option Addr} {cb : Nat} {vl : Value} (h : ItRaw w g o x Ab cb vl) (hg : g < w.heap.size) (hb : Below w.heap.size w w') : ItRaw w' g o x Ab cb vl :=
  ⟨(hb.cell (p := ⟨g, o, none⟩) hg).trans h.c0, (hb.cell (p := ⟨g, o + 1, none⟩) hg).trans h.c1, (hb.cell (p := ⟨g, o + 2, none⟩) hg).trans h.c2, (hb.cell (p := ⟨g, o + 3, none⟩) hg).trans h.c3, h.bc, h.b.step hb, h.l.step hb, h.k⟩
def RawIts (w : World) (v : Value) (xs : List ItP) : Prop := ∃ A c, v = .slice A xs.length c ∧ xs.length ≤ c ∧ (0 < xs.length → ∃ g o, A = some ⟨g, o, none⟩ ∧ g < w.heap.size ∧ ∀ i, i < xs.length → ∃ Ab cb vl, ItRaw w g (o + i * 4) (nthI xs i) Ab cb vl)
theorem RawIts.step {w w' : World} {v : Value} {xs : List ItP} (h : RawIts w v xs) (hb : Below w.heap.size w w') : RawIts w' v xs := by
  obtain ⟨A, c, h1, h2, h3⟩ := h
  refine ⟨A, c, h1, h2, fun h0 => ?_⟩
  obtain ⟨g, o, h4, h5, h6⟩ := h3 h0
  exact ⟨g, o, h4, Nat.lt_of_lt_of_le h5 hb.size, fun i hi => by
    obtain ⟨Ab, cb, vl, h⟩ := h6 i hi
    exact ⟨Ab, cb, vl, h.step h5 hb⟩⟩
theorem RawIts.its {w : World} {v : Value} {xs : List ItP} (h : RawIts w v xs) (hs : ∀ x ∈ xs, itSmall x) : ItsL w v xs := by
  obtain ⟨A, c, h1, h2, h3⟩ := h
  refine ⟨A, c, h1, h2, fun h0 => ?_⟩
  obtain ⟨g, o, h4, h5, h6⟩ := h3 h0
  refine ⟨g, o, h4, h5, fun i hi => ?_⟩
  obtain ⟨Ab, cb, vl, h⟩ := h6 i hi
  have := (hs _ (nthI_mem hi)).1
  exact ⟨_, vl, h.c0, h.c1, h.c2, h.c3, Bs.of h.bc (by omega) h.b, h.l, h.k⟩
theorem RawIts.keys {w : World} {v : Value} {xs : List ItP} (h : RawIts w v xs) : ∀ x ∈ xs, itKeys x := by
  intro x hx
  obtain ⟨i, hi, rfl⟩ := List.getElem_of_mem hx
  obtain ⟨A, c, h1, h2, h3⟩ := h
  obtain ⟨g, o, h4, h5, h6⟩ := h3 (by omega)
  obtain ⟨Ab, cb, vl, h⟩ := h6 i hi
  rw [nthI_get hi]; exact h.k
section
variable {P : Program} {H : Type} {enc : TypeId × Value → H} {w : World} {base : Nat} {spare : Nat → Bool} {held : Bool} {r : Reach} {b0 fuel : Nat} {t e : TypeId} {v : Value} {d : DataW H} {ps : List MemPlace} {x : DataW H × List MemPlace} {n : Nat}
theorem trod_arr8 {cs : List Value} (ht : P.underlying t = some (.array n e)) (he : P.underlying e = some (.int .u8)) (hc : P.cellsOf e = 1) (hl : cs.length = n) (h : DataW.trod enc P w base spare held fuel t cs = some x) :
    ∃ l : List UInt8, cs = u8v l ∧ l.length = n := by
  obtain ⟨xs, m, rfl, hx, hlen, hn, hel⟩ := DataW.trod_array ht h
  have hz : ∀ i, ∃ u : UInt8, i < n → cs[i]? = some (.int .u8 (n8 u)) := fun i => by
    by_cases hi : i < n
    · have h1 := hel i hi
      rw [hc, Nat.mul_one, List.getElem?_eq_getElem (by omega)] at h1
      obtain ⟨z, e1, e2, e3⟩ := DataW.trod_int he h1
      obtain ⟨u, rfl⟩ := wf8 e3
      refine ⟨u, fun _ => ?_⟩
      have h3 := congrArg (fun l => l[0]?) e1
      simp at h3
      simpa using h3
    · exact ⟨0, fun h => absurd h hi⟩
  let f : Nat → UInt8 := fun i => Classical.choose (hz i)
  refine ⟨(List.range n).map f, ?_, by simp⟩
  apply List.ext_getElem?
  intro i
  by_cases hi : i < n
  · rw [Classical.choose_spec (hz i) hi, u8v_get _ i (by simpa using hi), at8_map _ _ _ hi]
  · rw [List.getElem?_eq_none (by omega), List.getElem?_eq_none (by rw [u8v_length]; simp; omega)]
end
section
variable {H : Type} {enc : TypeId × Value → H} {w : World} {base : Nat} {spare : Nat → Bool} {held : Bool} {r : Reach} {b0 fuel : Nat} {t e : TypeId} {v : Value} {d : DataW H} {ps : List MemPlace} {x : DataW H × List MemPlace} {n : Nat}
theorem trod_keys {A : Option Addr} {n c : Nat} (h : DataW.trod enc Try.prog w base spare held fuel 41 [.slice A n c] = some x) :
    ∃ ks : BLs, n = ks.length ∧ KsL w (.slice A n c) ks ∧ ∀ k ∈ ks, k.length = 32 := by
  obtain ⟨hnc, hel⟩ := elems_of (k := 32) Try.underlying41 (by kernel_rfl) (by omega) h
  by_cases hn : 0 < n
  · obtain ⟨g, o, rfl, hg, hcs⟩ := hel hn
    have hex : ∀ i, ∃ K : List UInt8, i < n → K.length = 32 ∧ w.rangeAt g (o + i * 32) (u8v K) := fun i => by
      by_cases hi : i < n
      · obtain ⟨cs, y, fu, hl, hc1, hy⟩ := hcs i hi
        obtain ⟨K, rfl, hK⟩ := trod_arr8 Try.underlying72 Try.underlying5 (by kernel_rfl) hl hy
        refine ⟨K, fun _ => ⟨hK, fun j u hu => ?_⟩⟩
        have hj : j < 32 := by
          have := (List.getElem?_eq_some_iff.1 hu).1
          rw [u8v_length] at this; omega
        rw [Nat.add_assoc, hc1 j hj]; exact hu
      · exact ⟨[], fun h => absurd h hi⟩
    let f : Nat → List UInt8 := fun i => Classical.choose (hex i)
    have e1 : ∀ i, i < n → nthL ((List.range n).map f) i = f i := fun i hi => by rw [nthL_def]; simp [List.getD, hi]
    refine ⟨(List.range n).map f, by simp, ⟨_, c, by simp, by simpa using hnc, fun _ => ⟨g, o, rfl, hg, fun i hi => ?_⟩⟩, fun k hk => ?_⟩
    · have hi' : i < n := by simpa using hi
      rw [e1 i hi']
      exact (Classical.choose_spec (hex i) hi').2
    · simp only [List.mem_map, List.mem_range] at hk
      obtain ⟨i, hi, rfl⟩ := hk
      exact (Classical.choose_spec (hex i) hi).1
  · obtain rfl : n = 0 := by omega
    exact ⟨[], rfl, ⟨A, c, rfl, by simp, fun h => by simp at h⟩, fun k hk => by simp at hk⟩
theorem list4 {α : Type} {l : List α} (h : l.length = 4) : ∃ a b c d, l = [a, b, c, d] := by
  match l, h with
  | [a, b, c, d], _ => exact ⟨a, b, c, d, rfl⟩
theorem trod_item {cs : List Value} (hl : cs.length = 4) (h : DataW.trod enc Try.prog w base spare held fuel 43 cs = some x) {g o : Nat} (hc : ∀ j, j < 4 → w.cell? ⟨g, o + j, none⟩ = cs[j]?) : ∃ y, ∃ Ab cb vl, ItRaw w g o y Ab cb vl := by
  obtain ⟨xs, n, _, _, _, hlen, hf⟩ := DataW.trod_struct Try.underlying43 h
  obtain ⟨a, b, c, e, rfl⟩ := list4 hl
  have c1 : Try.prog.cellsOf 3 = 1 := by kernel_rfl
  have c2 : Try.prog.cellsOf 40 = 1 := by kernel_rfl
  have c3 : Try.prog.cellsOf 25 = 1 := by kernel_rfl
  have c4 : Try.prog.cellsOf 41 = 1 := by kernel_rfl
  have x4 : xs.length = 4 := hlen
  obtain ⟨y0, y1, y2, y3, rfl⟩ := list4 x4
  have f0 := hf 0 _ rfl
  have f1 := hf 1 _ rfl
  have f2 := hf 2 _ rfl
  have f3 := hf 3 _ rfl
  change DataW.trod enc Try.prog w base spare held n 3 (([a, b, c, e].drop 0).take (Try.prog.cellsOf 3)) = some y0 at f0
  change DataW.trod enc Try.prog w base spare held n 40 (([a, b, c, e].drop 1).take (Try.prog.cellsOf 40)) = some y1 at f1
  change DataW.trod enc Try.prog w base spare held n 25 (([a, b, c, e].drop 2).take (Try.prog.cellsOf 25)) = some y2 at f2
  change DataW.trod enc Try.prog w base spare held n 41 (([a, b, c, e].drop 3).take (Try.prog.cellsOf 41)) = some y3 at f3
  rw [c1] at f0
  rw [c2] at f1
  rw [c3] at f2
  rw [c4] at f3
  obtain ⟨z0, h0, _, w0⟩ := DataW.trod_int Try.underlying3 f0
  obtain ⟨z1, h1, _, w1⟩ := DataW.trod_int Try.underlying40 f1
  obtain ⟨u1, rfl⟩ := wf64 w1
  obtain ⟨A2, n2, k2, h2⟩ := cellsOf_slice1 Try.underlying25 f2
  obtain ⟨A3, n3, k3, h3⟩ := cellsOf_slice1 Try.underlying41 f3
  rw [h2] at f2
  rw [h3] at f3
  obtain ⟨l2, rfl, m2, r2⟩ := trod_bytes Try.underlying25 Try.underlying5 (by kernel_rfl) f2
  obtain ⟨ks, rfl, r3, hk3⟩ := trod_keys f3
  simp at h0 h1 h2 h3
  subst h0 h1 h2 h3
  have e0 := hc 0 (by omega)
  have e1 := hc 1 (by omega)
  have e2 := hc 2 (by omega)
  have e3 := hc 3 (by omega)
  simp at e0 e1 e2 e3
  exact ⟨⟨z0, u1, l2, ks⟩, A2, k2, .slice A3 ks.length k3, ⟨by simpa using e0, e1, e2, e3, m2, r2, r3, hk3⟩⟩
set_option maxRecDepth 100000 in
theorem arg_items (hval : Value.okWide Try.prog w r b0 22 v) (hd : DataW.Trod enc Try.prog w base spare held 22 v d ps) :
    ∃ xs, RawIts w v xs := by
  obtain ⟨a, n, c, rfl⟩ := okWide_slice Try.underlying22 hval
  obtain ⟨fuel, hf⟩ := hd
  obtain ⟨hnc, hel⟩ := elems_of (k := 4) Try.underlying22 (by kernel_rfl) (by omega) (by simpa [Value.cells] using hf)
  by_cases hn : 0 < n
  · obtain ⟨g, o, rfl, hg, hcs⟩ := hel hn
    have hex : ∀ i, ∃ u : ItP, i < n → ∃ Ab cb vl, ItRaw w g (o + i * 4) u Ab cb vl := fun i => by
      by_cases hi : i < n
      · obtain ⟨cs, y, fu, hl, hc1, hy⟩ := hcs i hi
        obtain ⟨u, hu⟩ := trod_item hl hy (g := g) (o := o + i * 4) (fun j hj => by rw [Nat.add_assoc]; exact hc1 j hj)
        exact ⟨u, fun _ => hu⟩
      · exact ⟨⟨0, 0, [], []⟩, fun h => absurd h hi⟩
    let f : Nat → ItP := fun i => Classical.choose (hex i)
    refine ⟨(List.range n).map f, _, c, by simp, by simpa using hnc, fun _ => ⟨g, o, rfl, hg, fun i hi => ?_⟩⟩
    have hi' : i < n := by simpa using hi
    have e1 : nthI ((List.range n).map f) i = f i := by rw [nthI_def]; simp [List.getD, hi']
    rw [e1]
    exact Classical.choose_spec (hex i) hi'
  · obtain rfl : n = 0 := by omega
    exact ⟨[], a, c, rfl, by simp, fun h => by simp at h⟩
set_option maxRecDepth 100000 in
theorem arg_ints (hval : Value.okWide Try.prog w r b0 33 v) (hd : DataW.Trod enc Try.prog w base spare held 33 v d ps) :
    ∃ s, IntsL w v s := by
  obtain ⟨a, n, c, rfl⟩ := okWide_slice Try.underlying33 hval
  obtain ⟨fuel, hf⟩ := hd
  obtain ⟨hnc, hel⟩ := elems_of (k := 1) Try.underlying33 (by kernel_rfl) (by omega) (by simpa [Value.cells] using hf)
  by_cases hn : 0 < n
  · obtain ⟨g, o, rfl, hg, hcs⟩ := hel hn
    have hex : ∀ i, ∃ u : Int, i < n → w.cell? ⟨g, o + i, none⟩ = some (.int .i64 u) := fun i => by
      by_cases hi : i < n
      · obtain ⟨cs, y, fu, hl, hc1, hy⟩ := hcs i hi
        obtain ⟨z, rfl, _, _⟩ := DataW.trod_int Try.underlying3 hy
        exact ⟨z, fun _ => by have := hc1 0 (by omega); simpa using this⟩
      · exact ⟨0, fun h => absurd h hi⟩
    let f : Nat → Int := fun i => Classical.choose (hex i)
    refine ⟨(List.range n).map f, _, c, by simp, by simpa using hnc, fun _ => ⟨g, o, rfl, hg, fun i hi => ?_⟩⟩
    have hi' : i < n := by simpa using hi
    have e1 : nthZ ((List.range n).map f) i = f i := by rw [nthZ_def]; simp [List.getD, hi']
    rw [e1]
    exact Classical.choose_spec (hex i) hi'
  · obtain rfl : n = 0 := by omega
    exact ⟨[], a, c, rfl, by simp, fun h => by simp at h⟩
end
set_option maxRecDepth 100000 in
set_option maxHeartbeats 1600000 in
theorem shortR_any (v : Value) (xs : List ItP) (w : World) (h : RawIts w v xs) :
    Calls Try.prog 16 #[v] w fun e w' => e = .returned (.bool (shortP xs)) ∧ w = w' := by
  obtain ⟨A, c, rfl, hc, hel⟩ := h
  by_cases h20 : 20 < xs.length
  · have i1 : (20 : Int) < xs.length := by omega
    have hs : shortP xs = false := by unfold shortP; rw [decide_eq_false (by omega), Bool.false_and]
    rw [hs]
    clear hel
    go_enter Try.func16, Try.ntmps16
    go_wp2_with fail
    go_ret
    exact ⟨rfl, rfl⟩
  · have HEL := Lib.hid hel
    obtain ⟨n, hN⟩ : ∃ n, n = xs.length := ⟨_, rfl⟩
    have HN := Lib.hid hN
    rw [← hN] at hc h20 ⊢
    have i1 : ¬ (20 : Int) < n := by omega
    clear hel hN
    go_enter Try.func16, Try.ntmps16
    go_wp2_with fail
    go_loopw [3] (fun i wr => ∃ k : Nat, k ≤ n ∧ i = .int .i64 k ∧ Hid (∀ j, j < k → ¬ 5000 < (nthI xs j).b.length ∧ ¬ 120 < (nthI xs j).l.length) ∧ wr = w) (fun i _ => n - (intOf i).toNat)
    case atStart => exact ⟨0, by omega, rfl, Lib.hid (fun x hx => absurd hx (by omega)), rfl⟩
    case round =>
      obtain ⟨k, hk, rfl, hno, hwr⟩ := hrel
      subst hwr
      by_cases hlt : k < n
      · have hlt' : k < xs.length := by rw [← HN.out]; exact hlt
        obtain ⟨g, o, rfl, hg, hit⟩ := HEL.out (by omega)
        obtain ⟨A1, c1, vl, it⟩ := hit k hlt'
        obtain ⟨A2, c2, rfl, -⟩ := id it.l
        obtain ⟨q0, q1, q2, q3, -, -, -, -⟩ := it
        have hk0 : (0 : Int) ≤ (k : Int) := by omega
        have hk1 : (k : Int) < (n : Int) := by omega
        have hbad := short_not (xs := xs) hlt'
        have HB := Lib.hid hbad
        obtain ⟨x, hx⟩ : ∃ x, x = nthI xs k := ⟨_, rfl⟩
        rw [← hx] at q0 q1 q2 q3 HB
        have HX := Lib.hid hx
        clear hit hx hbad q0 q1
        by_cases h5 : 5000 < x.b.length
        · have j1 : (5000 : Int) < x.b.length := by omega
          have hs := HB.out (.inl h5)
          have HS := Lib.hid hs
          clear hs
          go_wp2_with fail
          go_ret
          exact ⟨by rw [HS.out]; rfl, rfl⟩
        · have j1 : ¬ (5000 : Int) < x.b.length := by omega
          by_cases h12 : 120 < x.l.length
          · have j2 : (120 : Int) < x.l.length := by omega
            have hs := HB.out (.inr h12)
            have HS := Lib.hid hs
            clear hs
            go_wp2_with fail
            go_ret
            exact ⟨by rw [HS.out]; rfl, rfl⟩
          · have j2 : ¬ (120 : Int) < x.l.length := by omega
            go_wp2_with fail
            exact ⟨⟨k + 1, by omega, by go_num, Lib.hid (fun j hj => by
              rcases Nat.lt_or_ge j k with h | h
              · exact hno.out j h
              · obtain rfl : j = k := by omega
                rw [← HX.out]; exact ⟨h5, h12⟩), by first | rfl | trivial⟩, by simp [intOf]; omega⟩
      · have e : k = n := by omega
        have hs : shortP xs = true := short_yes (by rw [← HN.out]; omega) (fun j hj => hno.out j (by rw [e, HN.out]; exact hj))
        subst e
        have HS := Lib.hid hs
        clear hs
        go_wp2_with fail
        go_ret
        exact ⟨by rw [HS.out]; rfl, rfl⟩
end Go.Proofs.Ytifnpphkplogaaa
