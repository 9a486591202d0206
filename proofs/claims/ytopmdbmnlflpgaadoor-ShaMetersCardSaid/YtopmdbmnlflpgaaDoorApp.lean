/- Bytes appended to an own slice, and space laid out ahead. No program. -/
import Derived.Test.YtopmdbmnlflpgaaDoorRow
import Derived.Deep.Upon
import Derived.Lib.AppendZeros
namespace Go.Proofs.YtopmdbmnlflpgaaDoor
open Go.RowKit
section
variable {P : Program} {w : World} {t e : TypeId}
theorem run_append8s (ht : P.underlying t = some (.slice e)) (hi : (P.info? e).map (fun i => (i.zero, i.size, i.bytes)) = some (some (.int .u8 0), 1, 1)) (ty : TypeId)
    (base B : Nat) (v : Value) (l : List UInt8) (hown : Own8 e w base v l) (A : Option Addr) (c : Nat) (bs : List UInt8) (hr : Rd8 w B A bs) (hlen : l.length + bs.length ≤ 140737488355328) (hbase : base ≤ w.heap.size) :
    ∃ v' w', (Builtin.append_ #[t, t] ty #[v, .slice A bs.length c]).run P w = .ok v' w' ∧ Own8 e w' base v' (l ++ bs) ∧ w.grownBy w' v.ownBlock := by
  obtain ⟨i, hi1, hz, hs1, hb1⟩ := info_parts hi
  by_cases h0 : bs.length = 0
  · obtain rfl : bs = [] := List.eq_nil_of_length_eq_zero h0
    obtain ⟨A', c', rfl⟩ := hown.slice
    have hsrc : Src P i.size t (.slice A 0 c) 0 [] w := by
      cases A with
      | none => exact Src.ofNil w ht c
      | some a => exact Src.ofSlice w ht a 0 c [] (by simp) (fun j u hu => by simp at hu) (fun u hu => by cases hu)
    refine ⟨_, w, run_append_nothing w t t ty e i ht hi1 A' l.length c' hown.len.2 _ hsrc, by rw [List.append_nil]; exact hown, ⟨rfl, rfl, rfl, Nat.le_refl _, fun _ _ _ => rfl⟩⟩
  · obtain ⟨g, o, rfl, _, hc⟩ := hr (by omega)
    obtain ⟨g', cap, w', hrun, h2, h3, _, _⟩ := run_append_lies (P := P) w t ty base e i _ 1 1 ht hi1 hz hs1 hb1 rfl (by omega) v l.length (u8v l) hown ⟨g, o, none⟩ bs.length c (u8v bs) (by rw [u8v_length]; omega)
      (fun j u hu => by
        have hj : j < bs.length := by
          rcases Nat.lt_or_ge j bs.length with h | h
          · exact h
          · rw [List.getElem?_eq_none (by rw [u8v_length]; exact h)] at hu; cases hu
        have e1 : (⟨g, o, none⟩ : Addr).add j = ⟨g, o + j, none⟩ := by unfold Addr.add; split <;> simp_all
        rw [e1, hc j hj]
        rw [u8v_get bs j hj] at hu
        exact hu)
      (u8v_one bs) (by omega) (by simp only [maxLen]; omega) (by omega) hbase w.heap.size rfl
    refine ⟨_, w', hrun, ?_, h3⟩
    unfold Own8
    rw [List.length_append, ← u8v_append]
    exact h2
theorem wpList_append8s {ops : Array Oper} {rest : List Oper} {o : Oper} {a : Act} {Q : Exit → Act → World → Prop} (ht : P.underlying t = some (.slice e)) (hi : (P.info? e).map (fun i => (i.zero, i.size, i.bytes)) = some (some (.int .u8 0), 1, 1))
    (hgd : o.guard = none) (s x : Operand) (ho : o.op = .call { callee := .builtin .append, args := #[s, x], argTypes := #[t, t] })
    (base B : Nat) (v : Value) (l : List UInt8) (hs : a.eval s = v) (hown : Own8 e w base v l) (A : Option Addr) (n c : Nat) (bs : List UInt8) (hx : a.eval x = .slice A n c) (hn : n = bs.length) (hr : Rd8 w B A bs)
    (hlen : l.length + bs.length ≤ 140737488355328) (hbase : base ≤ w.heap.size)
    (h : ∀ A' c' w', Own8 e w' base (.slice A' (l ++ bs).length c') (l ++ bs) → w.grownBy w' v.ownBlock → wpList P ops Q rest (a.put o.dst (.slice A' (l ++ bs).length c')) w') : wpList P ops Q (o :: rest) a w := by
  subst hn
  refine wpList_plain hgd fun K hK => ?_
  obtain ⟨v', w', hrun, h2, h3⟩ := run_append8s (w := w) ht hi o.type base B v l hown A c bs hr hlen hbase
  obtain ⟨A', c', rfl⟩ := h2.slice
  unfold Oper.wp execOp
  simp only [ho, resolve, invoke, builtin, Sem.run_bind, Sem.run_pure, Result.andThen_ok, List.map_toArray, List.map_cons, List.map_nil, hs, hx, hrun]
  exact hK _ _ (h A' c' w' h2 h3)
theorem wpList_appendZeros {ops : Array Oper} {rest : List Oper} {o : Oper} {a : Act} {Q : Exit → Act → World → Prop} {ti : TypeId} (ht : P.underlying t = some (.slice e)) (hti : P.underlying ti = some (.int .i64)) (hi : (P.info? e).map (fun i => (i.zero, i.size, i.bytes)) = some (some (.int .u8 0), 1, 1))
    (hgd : o.guard = none) (s x : Operand) (ho : o.op = .call { callee := .builtin .append, args := #[s, x], argTypes := #[t, ti] })
    (n : Nat) (hs : a.eval s = .slice none 0 0) (hx : a.eval x = .int .i64 n) (h0 : 0 < n) (hn : n ≤ 70368744177664)
    (h : ∀ cap Zs, n ≤ cap → cap ≤ maxLen → Zs.size = cap → wpList P ops Q rest (a.put o.dst (.slice (some ⟨w.heap.size, 0, none⟩) n cap)) (w.drew.alloc (.cells Zs e))) : wpList P ops Q (o :: rest) a w := by
  refine wpList_plain hgd fun K hK => ?_
  obtain ⟨i, hi1, hz, hs1, hb1⟩ := info_parts hi
  have hrun := Lib.run_append_nil_zeros (P := P) w t ti o.type e i (.int .u8 0) .i64 .i64 ht hti hi1 hz n h0 (by omega) (by omega) (by rw [hb1]; omega)
  have hg := grownCap_ge w n 0 e
  have hk := hK _ _ (h (grownCap w n 0 e) (Builtin.zeroCells (Value.int .u8 0).cells n ++ Builtin.zeroCells (Value.int .u8 0).cells (grownCap w n 0 e - n)) hg (grownCap_le_maxLen w n 0 e (by simp only [maxLen]; omega)) (by
    rw [Array.size_append, size_zeroCells, size_zeroCells]; simp [Value.cells]; omega))
  unfold Oper.wp execOp
  simp only [ho, resolve, invoke, builtin, Sem.run_bind, Sem.run_pure, Result.andThen_ok, List.map_toArray, List.map_cons, List.map_nil, hs, hx, hrun]
  exact hk
end
end Go.Proofs.YtopmdbmnlflpgaaDoor
