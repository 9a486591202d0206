/- A whole array or struct out of and into the middle of a row that is known whole. No program. -/
import Derived.Test.YtopmdbmnlflpgaaDoorCopy
import Derived.Test.YtopmdbmnlflpgaaDoorUpd
import Derived.Deep.MidRow
namespace Go.Proofs.YtopmdbmnlflpgaaDoor
open Go.RowKit
theorem RowIs.range {w : World} {g : Nat} {cs : List Value} (h : RowIs w g cs.toArray) (o n : Nat) : w.rangeAt g o ((cs.drop o).take n) := fun j v hv => by
  obtain ⟨t, ht⟩ := h.row.heap
  rw [h.has] at ht
  rw [cell_of_row w g (o + j) _ t (0, 0) ht]
  have hj : j < n := by
    rcases Nat.lt_or_ge j n with h | h
    · exact h
    · rw [List.getElem?_eq_none (by simp; omega)] at hv; cases hv
  rw [List.getElem?_take, if_pos hj, List.getElem?_drop] at hv
  simpa using hv
theorem RowIs.there {w : World} {g : Nat} {cs : List Value} (h : RowIs w g cs.toArray) (o n : Nat) (hn : o + n ≤ cs.length) : w.there g o n := fun j hj => by
  refine ⟨?_, h.fz _⟩
  obtain ⟨t, ht⟩ := h.row.heap
  rw [h.has] at ht
  rw [cell_of_row w g (o + j) _ t (0, 0) ht]
  simp; omega
theorem spl_cons {α : Type} (l : List α) (o : Nat) (v : α) (r : List α) (h : o < l.length) : spl (l.set o v) (o + 1) r = spl l o (v :: r) := by
  unfold spl
  have e1 : (l.set o v).take (o + 1) = l.take o ++ [v] := by
    rw [List.take_succ_eq_append_getElem (by simpa using h)]
    simp [List.take_set_of_le]
  have e2 : (l.set o v).drop (o + 1 + r.length) = l.drop (o + (v :: r).length) := by
    rw [List.drop_set_of_lt (by omega)]
    congr 1
    simp; omega
  rw [e1, e2]; simp
theorem setCells_row {g : Nat} : ∀ (vs : List Value) (o : Nat) (w : World) (cs : List Value), RowIs w g cs.toArray → o + vs.length ≤ cs.length → w.setCells g o vs = w.setRow g (spl cs o vs).toArray
  | [], o, w, cs, h, hl => by
    have e : spl cs o [] = cs := by simp [spl]
    rw [e, ← h.eq]; rfl
  | v :: r, o, w, cs, h, hl => by
    have hl' : o + (r.length + 1) ≤ cs.length := by simpa using hl
    have hp : RowIs (w.setCell ⟨g, o, none⟩ v) g (cs.set o v).toArray := by simpa using h.put o v
    have hw : w.setCell ⟨g, o, none⟩ v = w.setRow g (cs.toArray.setIfInBounds o v) := by
      conv => lhs; rw [h.eq]
      exact setCell_setRow w g cs.toArray o v
    rw [World.setCells, setCells_row r (o + 1) _ (cs.set o v) hp (by simp; omega), hw, setRow_setRow, spl_cons _ _ _ _ (by omega)]
section
variable {P : Program} {w : World} {g o n : Nat} {ty : TypeId} {cs vs : List Value}
theorem run_loadAgg_mid {d : TypeDesc} (hu : P.underlying ty = some d) (hd : d.isRow = true) (hi : (P.info? ty).map (·.size) = some n) (h : RowIs w g cs.toArray) (hl : o + n ≤ cs.length) :
    (loadAgg ty (.pointer (some ⟨g, o, none⟩))).run P w = .ok (.value (.agg ((cs.drop o).take n).toArray)) w := by
  unfold loadAgg
  simp only [Sem.run_bind, run_loadAt_mid w g o ty _ d (h.range o n) hu hd (by rw [hi]; simp; omega), Result.andThen_ok, Sem.run_pure]
theorem run_storeAgg_mid (hi : (P.info? ty).map (·.size) = some n) (h : RowIs w g cs.toArray) (hn : vs.length = n) (hl : o + n ≤ cs.length) (h1 : ∀ v ∈ vs, v.oneCell' = true) :
    (storeAgg ty (.pointer (some ⟨g, o, none⟩)) (.agg vs.toArray)).run P w = .ok .skip (w.setRow g (spl cs o vs).toArray) := by
  unfold storeAgg
  simp only [Sem.run_bind, run_storeAt_mid w g o ty vs.toArray (h.there o _ (by simp; omega)) (by rw [hi]; simp [hn]) (all_oneCell_toArray h1), Result.andThen_ok, Sem.run_pure]
  rw [setCells_row _ _ _ _ h (by omega)]
end
end Go.Proofs.YtopmdbmnlflpgaaDoor
