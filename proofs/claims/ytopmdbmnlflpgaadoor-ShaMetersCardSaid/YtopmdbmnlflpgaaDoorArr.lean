/- An argument that is an array. -/
import Derived.Test.YtopmdbmnlflpgaaDoorOpen
import Derived.Test.YtopmdbmnlflpgaaDoorLaid
namespace Go.Proofs.YtopmdbmnlflpgaaDoor
open Go.ChangeShapes Go.WideShapes Go.ChangeAt Go.RowKit
def cellInt : Option Value → Int
  | some (.int _ z) => z
  | _ => 0
section
variable {P : Program} {H : Type} {enc : TypeId × Value → H} {w : World} {base : Nat} {spare : Nat → Bool} {held : Bool} {r : Reach} {b0 : Nat} {t e : TypeId} {v : Value} {d : DataW H} {ps : List MemPlace} {n : Nat} {k : IntKind}
theorem okWide_array (ht : P.underlying t = some (.array n e)) (h : Value.okWide P w r b0 t v) : ∃ cs, v = .agg cs ∧ cs.size = P.cellsOf t := by
  simp only [Value.okWide, ht] at h
  obtain ⟨cs, h1, h2, _⟩ := h
  exact ⟨cs, h1, h2⟩
theorem array_ints (ht : P.underlying t = some (.array n e)) (he : P.underlying e = some (.int k)) (hc : P.cellsOf e = 1) (hct : P.cellsOf t = n) (hval : Value.okWide P w r b0 t v) (hd : DataW.Trod enc P w base spare held t v d ps) :
    ∃ zs : List Int, v = .agg (zs.map (Value.int k)).toArray ∧ zs.length = n ∧ ∀ z ∈ zs, (Lit.int k z).wf = true := by
  obtain ⟨cs, rfl, hcs⟩ := okWide_array ht hval
  obtain ⟨fuel, hf⟩ := hd
  simp only [Value.cells] at hf
  obtain ⟨xs, m, rfl, hx, hlen, hn, hel⟩ := DataW.trod_array ht hf
  rw [hct] at hcs
  have hz : ∀ i, i < n → ∃ z, cs[i]? = some (.int k z) ∧ (Lit.int k z).wf = true := by
    intro i hi
    have h1 := hel i hi
    rw [hc, Nat.mul_one, List.getElem?_eq_getElem (by omega)] at h1
    obtain ⟨z, e1, e2, e3⟩ := DataW.trod_int he h1
    refine ⟨z, ?_, e3⟩
    have h3 := congrArg (fun l => l[0]?) e1
    simp at h3
    simpa using h3
  refine ⟨(List.range n).map fun i => cellInt cs[i]?, ?_, by simp, fun z hzm => ?_⟩
  · congr 1
    apply Array.ext_getElem?
    intro i
    by_cases hi : i < n
    · obtain ⟨z, h1, _⟩ := hz i hi
      rw [h1]
      simp [hi, h1, cellInt]
    · rw [Array.getElem?_eq_none (by omega), Array.getElem?_eq_none (by simp; omega)]
  · simp only [List.mem_map, List.mem_range] at hzm
    obtain ⟨i, hi, rfl⟩ := hzm
    obtain ⟨z, h1, h2⟩ := hz i hi
    rw [h1]; exact h2
theorem arg_arr8 (ht : P.underlying t = some (.array n e)) (he : P.underlying e = some (.int .u8)) (hc : P.cellsOf e = 1) (hct : P.cellsOf t = n) (hval : Value.okWide P w r b0 t v) (hd : DataW.Trod enc P w base spare held t v d ps) :
    ∃ l : List UInt8, v = .agg (u8s l) ∧ l.length = n := by
  obtain ⟨zs, rfl, hl, hw⟩ := array_ints ht he hc hct hval hd
  refine ⟨zs.map fun z => UInt8.ofNat z.toNat, ?_, by simp [hl]⟩
  rw [u8s_def, List.map_map]
  congr 2
  apply List.map_congr_left
  intro z hz
  have hb := bounds_u8 (hw z hz)
  simp only [Function.comp]
  rw [n8_of z (by omega) (by omega)]
theorem arg_arr32 (ht : P.underlying t = some (.array n e)) (he : P.underlying e = some (.int .u32)) (hc : P.cellsOf e = 1) (hct : P.cellsOf t = n) (hval : Value.okWide P w r b0 t v) (hd : DataW.Trod enc P w base spare held t v d ps) :
    ∃ l : List UInt32, v = .agg (u32s l) ∧ l.length = n := by
  obtain ⟨zs, rfl, hl, hw⟩ := array_ints ht he hc hct hval hd
  refine ⟨zs.map fun z => UInt32.ofNat z.toNat, ?_, by simp [hl]⟩
  rw [u32s_def, List.map_map]
  congr 2
  apply List.map_congr_left
  intro z hz
  have hb := bounds_u32 (hw z hz)
  simp only [Function.comp]
  rw [n32_of z (by omega) (by omega)]
end
end Go.Proofs.YtopmdbmnlflpgaaDoor
