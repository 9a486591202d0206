/- Package-level variables that are laid: what their blocks hold. No program. -/
import Derived.Test.YtopmdbmnlflpgaaDoorRow
import Derived.ProofKit
import Derived.OpenShut
import Derived.LaidMore
namespace Go.Proofs.YtopmdbmnlflpgaaDoor
open Go.ChangeShapes Go.WideShapes Go.ChangeAt Go.RowKit
section
variable {P : Program} {H : Type} {enc : TypeId × Value → H} {w : World} {base : Nat} {spare : Nat → Bool} {held : Bool} {fuel : Nat} {t e e' : TypeId} {k : IntKind} {cs : List Value} {p : List MemPlace}
def litsD {H : Type} (k : IntKind) (zs : List Int) : List (DataW H) := zs.map fun z => .lit (.int k z)
theorem cells_ints {n : Nat} (ht : P.underlying t = some (.array n e)) (he : P.underlying e = some (.int k)) (hc : P.cellsOf e = 1) (hct : P.cellsOf t = n) {zs : List Int}
    (h : DataW.trod enc P w base spare held fuel t cs = some (.agg (litsD k zs), p)) : cs = zs.map (Value.int k) := by
  obtain ⟨xs, m, rfl, hx, hlen, hn, hel⟩ := DataW.trod_array ht h
  simp only [Prod.mk.injEq, DataW.agg.injEq] at hx
  have hzl : zs.length = n := by
    have := congrArg List.length hx.1
    simp [litsD] at this; omega
  apply List.ext_getElem?
  intro i
  by_cases hi : i < n
  · have h1 := hel i hi
    rw [hc, Nat.mul_one] at h1
    have hxi : xs[i]? = some (xs[i]'(by omega)) := List.getElem?_eq_getElem _
    rw [hxi] at h1
    obtain ⟨z, e1, e2, _⟩ := DataW.trod_int he h1
    have h2 := congrArg (fun l => l[i]?) hx.1
    simp only [litsD, List.getElem?_map, hxi, Option.map_some] at h2
    rw [e2] at h2
    have hzi : zs[i]? = some (zs[i]'(by omega)) := List.getElem?_eq_getElem _
    rw [hzi] at h2
    simp at h2
    have h3 := congrArg (fun l => l[0]?) e1
    simp at h3
    rw [List.getElem?_map, hzi, h3]
    simp [h2]
  · rw [List.getElem?_eq_none (by omega), List.getElem?_eq_none (by simp; omega)]
/-- an array of arrays of integers -/
theorem cells_rows {n m : Nat} (ht : P.underlying t = some (.array n e)) (he : P.underlying e = some (.array m e')) (he' : P.underlying e' = some (.int k)) (hc : P.cellsOf e' = 1) (hce : P.cellsOf e = m) (_hct : P.cellsOf t = n * m) {zss : List (List Int)}
    (h : DataW.trod enc P w base spare held fuel t cs = some (.agg (zss.map fun zs => .agg (litsD k zs)), p)) : ∀ i, i < n → (cs.drop (i * m)).take m = ((zss[i]?).getD []).map (Value.int k) := by
  obtain ⟨xs, q, rfl, hx, hlen, hn, hel⟩ := DataW.trod_array ht h
  simp only [Prod.mk.injEq, DataW.agg.injEq] at hx
  have hzl : zss.length = n := by
    have := congrArg List.length hx.1
    simp at this; omega
  intro i hi
  have h1 := hel i hi
  rw [hce] at h1
  have hxi : xs[i]? = some (xs[i]'(by omega)) := List.getElem?_eq_getElem _
  have hzi : zss[i]? = some (zss[i]'(by omega)) := List.getElem?_eq_getElem _
  have h2 := congrArg (fun l => l[i]?) hx.1
  simp only [List.getElem?_map, hxi, hzi, Option.map_some] at h2
  simp at h2
  rw [hxi] at h1
  have h3 : xs[i]'(by omega) = (.agg (litsD k (zss[i]'(by omega))), (xs[i]'(by omega)).2) := by rw [h2]
  rw [h3] at h1
  rw [hzi]
  exact cells_ints he he' hc hce h1
theorem flat_rows {n m : Nat} (_hm : 0 < m) {cs : List Value} {rs : List (List Value)} (hl : cs.length = n * m) (hr : rs.length = n) (hrm : ∀ r ∈ rs, r.length = m)
    (h : ∀ i, i < n → (cs.drop (i * m)).take m = (rs[i]?).getD []) : cs = rs.flatten := by
  induction n generalizing cs rs with
  | zero =>
    have : cs = [] := List.length_eq_zero_iff.1 (by omega)
    have h2 : rs = [] := List.length_eq_zero_iff.1 hr
    rw [this, h2]; rfl
  | succ n ih =>
    cases rs with
    | nil => simp at hr
    | cons r rs =>
      have h0 := h 0 (by omega)
      simp at h0
      have := ih (cs := cs.drop m) (rs := rs) (by rw [List.length_drop, hl, Nat.succ_mul]; omega) (by simpa using hr) (fun x hx => hrm x (by simp [hx])) (fun i hi => by
        have := h (i + 1) (by omega)
        rw [List.drop_drop]
        rw [Nat.succ_mul, Nat.add_comm] at this
        simpa using this)
      rw [List.flatten_cons, ← this, ← h0, List.take_append_drop]
/-- a listed variable's block -/
theorem laid_block {W : World} {laid : List (String × DataW Unit)} {ps : List MemPlace} {n : String} {d : DataW Unit} (h : DataW.LaidVars P W laid ps) (hm : (n, d) ∈ laid)
    (hc : ∀ b off, MemPlace.cell b off ∈ ps → (∃ c t, W.heap[b]? = some (.cells c t (0, 0)))) :
    ∃ g t cs fuel p, P.globalNamed n = some g ∧ (P.globals[g]?).map (·.type) = some t ∧ DataW.trod (fun _ => ()) P W 0 (fun _ => true) false fuel t cs.toList = some (d, p) ∧ (0 < cs.size → RowIs W g cs) := by
  induction laid generalizing ps with
  | nil => cases hm
  | cons x r ih =>
    obtain ⟨x1, x2⟩ := x
    obtain ⟨g, t, cs, fuel, p, q, hg, ht, hv, hd, hr, rfl⟩ := h
    rcases List.mem_cons.1 hm with e | e
    · cases e
      refine ⟨g, t, cs, fuel, p, hg, ht, hd, fun h0 => ?_⟩
      have hmem : MemPlace.cell g 0 ∈ MemPlace.row ⟨g, 0, none⟩ cs.size ++ p ++ q := by
        simp only [List.mem_append]
        left; left
        unfold MemPlace.row
        simp only [List.mem_map, List.mem_range]
        exact ⟨0, h0, by simp⟩
      obtain ⟨c, t', hh⟩ := hc _ _ hmem
      have : c = cs := by
        unfold World.var? at hv
        rw [hg] at hv
        simp [hh] at hv
        exact hv
      subst this
      exact ⟨⟨c, t', hh⟩, rowOf_eq hh⟩
    · exact ih hr e (fun b off hb => hc b off (by simp [hb]))
end
end Go.Proofs.YtopmdbmnlflpgaaDoor
