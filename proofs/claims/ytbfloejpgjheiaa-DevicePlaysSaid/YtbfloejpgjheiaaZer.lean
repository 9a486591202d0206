/- Zeros appended to an own row of bytes: append(s, make([]byte, n)...). No program. -/
import Derived.Test.YtbfloejpgjheiaaAppBs
import Derived.Test.YtbfloejpgjheiaaPart
import Derived.Lib.AppendZerosOnto
namespace Go.Proofs.Ytbfloejpgjheiaa
open Go.RowKit
section
variable {P : Program} {w : World} {t tn e : TypeId}
theorem zeroCells1 (m : Nat) : Builtin.zeroCells (Value.int .u8 0).cells m = (u8v (List.replicate m 0)).toArray := by
  rw [← u8s_toArray]
  apply Array.ext
  · simp [Builtin.zeroCells, Value.cells, u8s_size]
  · intro j h1 h2
    simp [Builtin.zeroCells, Value.cells, u8s_def, n8_def, Nat.mod_one]
theorem run_append8z (ht : P.underlying t = some (.slice e)) (htn : P.underlying tn = some (.int .i64)) (hi : (P.info? e).map (fun i => (i.zero, i.size, i.bytes)) = some (some (.int .u8 0), 1, 1)) (ty : TypeId)
    (base : Nat) (v : Value) (l : List UInt8) (hown : Own8 e w base v l) (m : Nat) (hlen : l.length + m ≤ 70368744177664) (hbase : base ≤ w.heap.size) :
    ∃ v' w', (Builtin.append_ #[t, tn] ty #[v, .int .i64 m]).run P w = .ok v' w' ∧ Own8 e w' base v' (l ++ List.replicate m 0) ∧ w.grownBy w' v.ownBlock := by
  obtain ⟨i, hi1, hz, hs1, hb1⟩ := info_parts hi
  have hw : IntKind.i64.wrap (m : Int) = m := by rw [IntKind.wrap_i64]; omega
  have hneg : ¬ ((m : Int) < 0) := by omega
  have h48i : ¬ (281474976710656 < (m : Int) * (i.bytes : Int)) := by rw [hb1]; omega
  have hxs : (u8v l ++ u8v (List.replicate m 0)).length = (l ++ List.replicate m (0 : UInt8)).length * 1 := by rw [u8v_append, u8v_length]; omega
  have hll : (l ++ List.replicate m (0 : UInt8)).length = l.length + m := by simp
  have hul : (u8v l).length = l.length := u8v_length l
  have huz : (u8v (List.replicate m (0 : UInt8))).length = m := by rw [u8v_length]; simp
  -- a new row
  have grown : ∀ (old : Nat) (row : Option Nat), Own8 e (w.drew.alloc (.cells ((u8v l).toArray ++ Builtin.zeroCells (Value.int .u8 0).cells m ++ Builtin.zeroCells (Value.int .u8 0).cells (grownCap w (l.length + m) old e - (l.length + m))) e)) base
        (.slice (some ⟨w.heap.size, 0, none⟩) (l.length + m) (grownCap w (l.length + m) old e)) (l ++ List.replicate m 0) ∧
      w.grownBy (w.drew.alloc (.cells ((u8v l).toArray ++ Builtin.zeroCells (Value.int .u8 0).cells m ++ Builtin.zeroCells (Value.int .u8 0).cells (grownCap w (l.length + m) old e - (l.length + m))) e)) row := by
    intro old row
    have hge := grownCap_ge w (l.length + m) old e
    have hcm : grownCap w (l.length + m) old e ≤ maxLen := grownCap_le_maxLen w (l.length + m) old e (by simp only [maxLen]; omega)
    refine ⟨⟨by rw [u8v_length]; omega, .inr ⟨w.heap.size, _, _, by rw [hll], hbase, heap_alloc_new w.drew _, by rw [hll]; exact hge, hcm, ?_, ?_⟩⟩, ⟨rfl, rfl, rfl, by simp, fun k hk _ => Below.heap_alloc w.drew _ k hk⟩⟩
    · simp only [Array.size_append, List.size_toArray, size_zeroCells, Value.cells, hul]
      simp; omega
    · simp only [Array.toList_append, zeroCells1]
      rw [List.take_append_of_le_length (by rw [hxs]; exact Nat.le_refl _), List.take_of_length_le (by rw [hxs]; exact Nat.le_refl _), u8v_append]
  rcases hown.2 with ⟨rfl, hn⟩ | ⟨g, cap, cur, rfl, hbg, hg, hnc, hcm, hcs, htake⟩
  · have hl0 : l = [] := List.eq_nil_of_length_eq_zero hn
    subst hl0
    by_cases hm : m = 0
    · subst hm
      refine ⟨.slice none 0 0, w, ?_, hown, ⟨rfl, rfl, rfl, Nat.le_refl _, fun _ _ _ => rfl⟩⟩
      have hw0 : IntKind.i64.wrap 0 = 0 := by decide
      simp [Builtin.append_, run_underlying ht, run_underlying htn, sizeOf, typeInfo, hi1, asInt, asIntOf, hw0]
    · have hr := Lib.run_append_nil_zeros (P := P) w t tn ty e i (.int .u8 0) .i64 .i64 ht htn hi1 hz m (by omega) (by omega) (by omega) (by rw [hb1]; omega)
      have hg := grown 0 (Value.ownBlock (.slice none 0 0))
      simp only [List.length_nil, Nat.zero_add, List.nil_append, u8v_def, List.map_nil, Array.empty_append] at hg ⊢
      exact ⟨_, _, hr, hg.1, hg.2⟩
  · by_cases hroom : l.length + m ≤ cap
    · have hfit : l.length * 1 + (u8v (List.replicate m (0 : UInt8))).length ≤ cur.size := by rw [huz, hcs]; omega
      have hst := run_storeCells_at P g (l.length * 1) e (u8v (List.replicate m 0)) 0 cur w hg (by simpa using hfit) (u8v_one _)
      simp only [Nat.add_zero] at hst
      refine ⟨.slice (some ⟨g, 0, none⟩) (l.length + m) cap, w.setRow g (cur.toList.take (l.length * 1) ++ u8v (List.replicate m 0) ++ cur.toList.drop (l.length * 1 + (u8v (List.replicate m (0 : UInt8))).length)).toArray, ?_, ⟨by rw [u8v_length]; omega, .inr ⟨g, cap, _, by rw [hll], hbg, setRow_heap w g cur _ e _ hg, by rw [hll]; exact hroom, hcm, ?_, ?_⟩⟩, ⟨rfl, rfl, rfl, by simp, fun k _ hk => setRow_other w g k _ (fun e => hk (by simp [Value.ownBlock, e]))⟩⟩
      · by_cases hm : m = 0
        · subst hm
          have hw0 : IntKind.i64.wrap 0 = 0 := by decide
          simp [Builtin.append_, run_underlying ht, run_underlying htn, sizeOf, typeInfo, hi1, hs1, asInt, asIntOf, hw0, hnc, Addr.add_lit] at hst ⊢
          have hnil : u8v [] = [] := by rw [u8v_def]; rfl
          rw [hnil] at hst ⊢
          rw [hst, Result.andThen_ok]
        · have hz1 := zeroCells1 m
          have h48m : ¬ (281474976710656 < (m : Int)) := by omega
          simp [Builtin.append_, run_underlying ht, run_underlying htn, sizeOf, typeInfo, zeroValue, hi1, hz, hs1, hb1, asInt, asIntOf, hw, hm, hneg, h48m, hroom, hz1, Addr.add_lit] at hst ⊢
          simp [hst]
      · simp only [List.size_toArray, List.length_append, List.length_take, List.length_drop, Array.length_toList]
        omega
      · simp only []
        rw [htake, hll, ← u8v_append]
        exact List.take_left' (by rw [List.length_append, hul, huz]; omega)
    · have holds : ∀ j u, (u8v l)[j]? = some u → w.drew.cell? ((⟨g, 0, none⟩ : Addr).add j) = some u := hown.cells (g := g) rfl
      have hf := run_firstCells_some (P := P) w.drew i.size l.length ⟨g, 0, none⟩ l.length cap (u8v l) (by rw [hul, hs1]; omega) holds
      have hr := Lib.run_append_grow_zeros (P := P) w t tn ty e i (.int .u8 0) .i64 .i64 ht htn hi1 hz (some ⟨g, 0, none⟩) l.length cap (u8v l) hf m (by omega) (by omega) (by omega) (by omega) (by rw [hb1]; omega) (by rw [hb1]; have := growslice_fits (need := l.length + m) (old := cap) (bytes := 1) (by omega) (by omega); exact this)
      have hgr := grown cap (Value.ownBlock (.slice (some ⟨g, 0, none⟩) l.length cap))
      exact ⟨_, _, hr, hgr.1, hgr.2⟩
theorem wpList_append8z {ops : Array Oper} {rest : List Oper} {o : Oper} {a : Act} {Q : Exit → Act → World → Prop} (ht : P.underlying t = some (.slice e)) (htn : P.underlying tn = some (.int .i64)) (hi : (P.info? e).map (fun i => (i.zero, i.size, i.bytes)) = some (some (.int .u8 0), 1, 1))
    (hgd : o.guard = none) (s x : Operand) (ho : o.op = .call { callee := .builtin .append, args := #[s, x], argTypes := #[t, tn] })
    (base : Nat) {v : Value} {l L : List UInt8} {m N : Nat} (hs : a.eval s = v) (hown : Own8 e w base v l) (hx : a.eval x = .int .i64 m) (hL : l ++ List.replicate m 0 = L) (hN : L.length = N) (hlen : N ≤ 70368744177664) (hbase : base ≤ w.heap.size)
    (h : ∀ A' c' w', Own8 e w' base (.slice A' N c') L → Below base w w' → wpList P ops Q rest (a.put o.dst (.slice A' N c')) w') : wpList P ops Q (o :: rest) a w := by
  subst hL
  subst hN
  refine wpList_plain hgd fun K hK => ?_
  obtain ⟨v', w', hrun, h2, h3⟩ := run_append8z (w := w) ht htn hi o.type base v l hown m (by simpa using hlen) hbase
  obtain ⟨A', c', rfl⟩ := h2.slice
  unfold Oper.wp execOp
  simp only [ho, resolve, invoke, builtin, Sem.run_bind, Sem.run_pure, Result.andThen_ok, List.map_toArray, List.map_cons, List.map_nil, hs, hx, hrun]
  exact hK _ _ (h A' c' w' h2 (below_append (Below.refl _ _) hown h3 (Nat.le_refl _) hbase))
/-- the same behind a guard that holds -/
theorem wpListG_append8z {ops : Array Oper} {rest : List Oper} {o : Oper} {a : Act} {Q : Exit → Act → World → Prop} (hw : Region.wanted o (yielded ops a.tmps) = true) (ht : P.underlying t = some (.slice e)) (htn : P.underlying tn = some (.int .i64)) (hi : (P.info? e).map (fun i => (i.zero, i.size, i.bytes)) = some (some (.int .u8 0), 1, 1))
    (s x : Operand) (ho : o.op = .call { callee := .builtin .append, args := #[s, x], argTypes := #[t, tn] })
    (base : Nat) {v : Value} {l L : List UInt8} {m N : Nat} (hs : a.eval s = v) (hown : Own8 e w base v l) (hx : a.eval x = .int .i64 m) (hL : l ++ List.replicate m 0 = L) (hN : L.length = N) (hlen : N ≤ 70368744177664) (hbase : base ≤ w.heap.size)
    (h : ∀ A' c' w', Own8 e w' base (.slice A' N c') L → Below base w w' → wpList P ops Q rest (a.put o.dst (.slice A' N c')) w') : wpList P ops Q (o :: rest) a w := by
  subst hL
  subst hN
  refine wpList_wanted hw fun K hK => ?_
  obtain ⟨v', w', hrun, h2, h3⟩ := run_append8z (w := w) ht htn hi o.type base v l hown m (by simpa using hlen) hbase
  obtain ⟨A', c', rfl⟩ := h2.slice
  unfold Oper.wp execOp
  simp only [ho, resolve, invoke, builtin, Sem.run_bind, Sem.run_pure, Result.andThen_ok, List.map_toArray, List.map_cons, List.map_nil, hs, hx, hrun]
  exact hK _ _ (h A' c' w' h2 (below_append (Below.refl _ _) hown h3 (Nat.le_refl _) hbase))
theorem wpListG_appendBs {ops : Array Oper} {rest : List Oper} {o : Oper} {a : Act} {Q : Exit → Act → World → Prop} (hw : Region.wanted o (yielded ops a.tmps) = true) (ht : P.underlying t = some (.slice e)) (hi : (P.info? e).map (fun i => (i.zero, i.size, i.bytes)) = some (some (.int .u8 0), 1, 1))
    (s x : Operand) (ho : o.op = .call { callee := .builtin .append, args := #[s, x], argTypes := #[t, t] })
    (base : Nat) {v vx : Value} {l bs L : List UInt8} {N : Nat} (hs : a.eval s = v) (hown : Own8 e w base v l) (hx : a.eval x = vx) (hb : Bs w vx bs) (hL : l ++ bs = L) (hN : L.length = N)
    (hlen : N ≤ 140737488355328) (hbase : base ≤ w.heap.size)
    (h : ∀ A' c' w', Own8 e w' base (.slice A' N c') L → Below base w w' → wpList P ops Q rest (a.put o.dst (.slice A' N c')) w') : wpList P ops Q (o :: rest) a w := by
  obtain ⟨A, c, rfl, h1, h2, h3⟩ := hb
  subst hL; subst hN
  refine wpList_wanted hw fun K hK => ?_
  obtain ⟨v', w', hrun, g2, g3⟩ := run_append8s (w := w) ht hi o.type base _ v l hown A c bs h3 (by rwa [List.length_append] at hlen) hbase
  obtain ⟨A', c', rfl⟩ := g2.slice
  unfold Oper.wp execOp
  simp only [ho, resolve, invoke, builtin, Sem.run_bind, Sem.run_pure, Result.andThen_ok, List.map_toArray, List.map_cons, List.map_nil, hs, hx, hrun]
  exact hK _ _ (h A' c' w' g2 (below_append (Below.refl _ _) hown g3 (Nat.le_refl _) hbase))
end
end Go.Proofs.Ytbfloejpgjheiaa
