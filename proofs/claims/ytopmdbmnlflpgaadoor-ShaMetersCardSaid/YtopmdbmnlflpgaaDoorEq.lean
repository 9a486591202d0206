/- Arrays of integers held against each other. No program. -/
import Derived.Test.YtopmdbmnlflpgaaDoorRow
import Derived.ChangeKeysEq
namespace Go.Proofs.YtopmdbmnlflpgaaDoor
open Go.RowKit
section
variable {P : Program}
theorem run_part_int {e : TypeId} {k : IntKind} (he : P.underlying e = some (.int k)) (w : World) (xs : Array Value) (i : Nat) (v : Value) (hx : xs[i]? = some v) : (part e xs i).run P w = .ok v w := by
  simp [part, isAgg, run_underlying he, hx]
theorem run_eqItems8 {e : TypeId} (he : P.underlying e = some (.int .u8)) (d : Nat) (l m : List UInt8) (w : World) : ∀ is : List Nat, (∀ i ∈ is, i < l.length ∧ i < m.length) →
    (Op.eqItems (d + 1) e 1 (u8s l) (u8s m) is).run P w = .ok (is.all fun i => at8 l i == at8 m i) w
  | [], _ => by simp [Op.eqItems]
  | i :: is, h => by
    have hi := h i (by simp)
    have ih := run_eqItems8 he d l m w is (fun j hj => h j (by simp [hj]))
    have p1 := run_part_int he w (u8s l) (i * 1) _ (by rw [Nat.mul_one]; exact u8s_get l i hi.1)
    have p2 := run_part_int he w (u8s m) (i * 1) _ (by rw [Nat.mul_one]; exact u8s_get m i hi.2)
    simp only [Op.eqItems, Sem.run_bind, p1, p2, Result.andThen_ok, run_equalIn_int w d e .u8 .u8 _ _ he]
    have e1 : (n8 (at8 l i) == n8 (at8 m i)) = (at8 l i == at8 m i) := by
      rw [Bool.eq_iff_iff, beq_iff_eq, beq_iff_eq]
      exact ⟨fun h => n8_inj h, fun h => by rw [h]⟩
    rw [e1]
    cases hb : at8 l i == at8 m i
    · simp [hb]
    · simp only [Bool.not_true, Bool.false_eq_true, if_false, List.all_cons, hb, Bool.true_and]
      exact ih
theorem run_eqItems32 {e : TypeId} (he : P.underlying e = some (.int .u32)) (d : Nat) (l m : List UInt32) (w : World) : ∀ is : List Nat, (∀ i ∈ is, i < l.length ∧ i < m.length) →
    (Op.eqItems (d + 1) e 1 (u32s l) (u32s m) is).run P w = .ok (is.all fun i => at32 l i == at32 m i) w
  | [], _ => by simp [Op.eqItems]
  | i :: is, h => by
    have hi := h i (by simp)
    have ih := run_eqItems32 he d l m w is (fun j hj => h j (by simp [hj]))
    have p1 := run_part_int he w (u32s l) (i * 1) _ (by rw [Nat.mul_one]; exact u32s_get l i hi.1)
    have p2 := run_part_int he w (u32s m) (i * 1) _ (by rw [Nat.mul_one]; exact u32s_get m i hi.2)
    simp only [Op.eqItems, Sem.run_bind, p1, p2, Result.andThen_ok, run_equalIn_int w d e .u32 .u32 _ _ he]
    have e1 : (n32 (at32 l i) == n32 (at32 m i)) = (at32 l i == at32 m i) := by
      rw [Bool.eq_iff_iff, beq_iff_eq, beq_iff_eq]
      constructor
      · intro h
        rw [n32_def, n32_def] at h
        exact UInt32.toNat_inj.1 (by omega)
      · intro h; rw [h]
    rw [e1]
    cases hb : at32 l i == at32 m i
    · simp [hb]
    · simp only [Bool.not_true, Bool.false_eq_true, if_false, List.all_cons, hb, Bool.true_and]
      exact ih
theorem ext32 {l m : List UInt32} (hl : l.length = m.length) (h : ∀ x, x < l.length → at32 l x = at32 m x) : l = m := by
  apply List.ext_getElem hl
  intro i h1 h2
  have := h i h1
  rwa [at32_get l i h1, at32_get m i h2] at this
theorem run_equal8 {t e : TypeId} {n : Nat} (hu : P.underlying t = some (.array n e)) (his : (P.info? e).isSome = true) (he : P.underlying e = some (.int .u8)) (hc : P.cellsOf e = 1) (l m : List UInt8) (hl : l.length = n) (hm : m.length = n) (w : World) :
    (Op.equalIn 10000 t (.agg (u8s l)) (.agg (u8s m))).run P w = .ok (decide (l = m)) w := by
  obtain ⟨i, hi⟩ := Option.isSome_iff_exists.1 his
  rw [run_equalIn_array w 9999 (u8s l) (u8s m) hu hi, hc, run_eqItems8 he 9998 l m w (List.range n) (fun j hj => by rw [List.mem_range] at hj; omega)]
  congr 1
  rw [Bool.eq_iff_iff, List.all_eq_true, decide_eq_true_eq]
  constructor
  · intro h
    exact ext8' (by omega) fun x hx => by have := h x (by rw [List.mem_range]; omega); simpa using this
  · rintro rfl; simp
theorem run_equal32 {t e : TypeId} {n : Nat} (hu : P.underlying t = some (.array n e)) (his : (P.info? e).isSome = true) (he : P.underlying e = some (.int .u32)) (hc : P.cellsOf e = 1) (l m : List UInt32) (hl : l.length = n) (hm : m.length = n) (w : World) :
    (Op.equalIn 10000 t (.agg (u32s l)) (.agg (u32s m))).run P w = .ok (decide (l = m)) w := by
  obtain ⟨i, hi⟩ := Option.isSome_iff_exists.1 his
  rw [run_equalIn_array w 9999 (u32s l) (u32s m) hu hi, hc, run_eqItems32 he 9998 l m w (List.range n) (fun j hj => by rw [List.mem_range] at hj; omega)]
  congr 1
  rw [Bool.eq_iff_iff, List.all_eq_true, decide_eq_true_eq]
  constructor
  · intro h
    exact ext32 (by omega) fun x hx => by have := h x (by rw [List.mem_range]; omega); simpa using this
  · rintro rfl; simp
end
end Go.Proofs.YtopmdbmnlflpgaaDoor
