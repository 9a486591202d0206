/- Layer 14: what a past holds: a slice of trails that grows behind and goes ahead; one more appended. | Layer 14: Add of a past, the program's. | Layer 14: Find of a past, the program's: with slices.IndexFunc and the closure. | Layer 14: Forget and First of a past, the program's. | Layer 14: a trail held against itself. -/
import Derived.Test.YtopmdbmnlflpgaaDoorTrW
import Derived.Test.YtopmdbmnlflpgaaDoorPart2
import Derived.Test.YtopmdbmnlflpgaaDoorLexT
import Derived.Laws.ResultCell
import Derived.Deep.LoopGhost
import Derived.Laws.StructEq
namespace Go.Proofs.YtopmdbmnlflpgaaDoor
section
open Go.RowKit
/-- a trail, plain: its head, its number -/
abbrev Tr := List UInt8 × UInt32
def flatT (ts : List Tr) : List Value := ts.flatMap fun t => trL t.1 t.2
def OkT (ts : List Tr) : Prop := ∀ t ∈ ts, t.1.length = 32
theorem trL_length (h : List UInt8) (hh : h.length = 32) (n : UInt32) : (trL h n).length = 33 := by simp [trL, u8v_length, hh]
theorem flatT_length : ∀ (ts : List Tr), OkT ts → (flatT ts).length = ts.length * 33
  | [], _ => rfl
  | t :: r, h => by
    rw [flatT, List.flatMap_cons, List.length_append, trL_length _ (h t (by simp)), ← flatT, flatT_length r (fun x hx => h x (by simp [hx])), List.length_cons]; omega
theorem flatT_app (ts : List Tr) (t : Tr) : flatT (ts ++ [t]) = flatT ts ++ trL t.1 t.2 := by simp [flatT]
theorem trL_one (h : List UInt8) (n : UInt32) : ∀ v ∈ trL h n, v.oneCell' = true := fun v hv => by
  rw [trL, List.mem_append] at hv
  rcases hv with hv | hv
  · exact u8v_one h v hv
  · rw [List.mem_singleton.1 hv]; rfl
def OwnT (w : World) (base : Nat) (v : Value) (ts : List Tr) : Prop :=
  (v = .slice none 0 0 ∧ ts = []) ∨ ∃ g o c cur, v = .slice (some ⟨g, o, none⟩) ts.length c ∧ base ≤ g ∧ w.heap[g]? = some (.cells cur 64 (0, 0)) ∧ ts.length ≤ c ∧ c ≤ maxLen ∧ cur.size = o + c * 33 ∧ (cur.toList.drop o).take (ts.length * 33) = flatT ts
theorem OwnT.nil (w : World) (base : Nat) : OwnT w base (.slice none 0 0) [] := .inl ⟨rfl, rfl⟩
theorem OwnT.slice {w : World} {base : Nat} {v : Value} {ts : List Tr} (h : OwnT w base v ts) : ∃ A c, v = .slice A ts.length c := by
  rcases h with ⟨h1, h2⟩ | ⟨g, o, c, cur, hv, _⟩
  · exact ⟨none, 0, by rw [h1, h2]; rfl⟩
  · exact ⟨_, _, hv⟩
theorem OwnT.keep {w w' : World} {base : Nat} {v : Value} {ts : List Tr} (h : OwnT w base v ts) (hb : ∀ k, base ≤ k → k < w.heap.size → w'.heap[k]? = w.heap[k]?) : OwnT w' base v ts := by
  rcases h with h | ⟨g, o, c, cur, hv, hg, hh, r⟩
  · exact .inl h
  · refine .inr ⟨g, o, c, cur, hv, hg, ?_, r⟩
    have hlt := (Array.getElem?_eq_some_iff.1 hh).1
    rw [hb g hg hlt]; exact hh
theorem OwnT.step {w w' : World} {base : Nat} {v : Value} {ts : List Tr} (h : OwnT w base v ts) (hb : Below w.heap.size w w') : OwnT w' base v ts := h.keep fun k _ hk => hb.block k hk
theorem OwnT.upd {w w' : World} {base g : Nat} {v : Value} {ts : List Tr} (h : OwnT w base v ts) (hu : Upd g w w') (hg : g < base) : OwnT w' base v ts := h.keep fun k hk hl => hu.block k hl (by omega)
theorem trInfo : (Tryd.prog.info? 64).map (fun i => (i.zero.isSome, i.size, i.bytes)) = some (true, 33, 36) := by kernel_rfl
theorem trInfo_parts : ∃ i z, Tryd.prog.info? 64 = some i ∧ i.zero = some z ∧ i.size = 33 ∧ i.bytes = 36 ∧ z.cells.size = 33 := by
  obtain ⟨i, hi, h⟩ := Option.map_eq_some_iff.1 trInfo
  simp only [Prod.mk.injEq] at h
  obtain ⟨z, hz⟩ := Option.isSome_iff_exists.1 h.1
  refine ⟨i, z, hi, hz, h.2.1, h.2.2, ?_⟩
  have := trZero
  rw [hi] at this
  simp only [Option.bind_some, hz, Option.some.injEq] at this
  rw [this]
  exact trC_size _ (zeros_length 32) 0
theorem frozen_row {w : World} {g i : Nat} {cur : Array Value} {T : TypeId} (h : w.heap[g]? = some (.cells cur T (0, 0))) : w.frozen? ⟨g, i, none⟩ = false := by
  unfold World.frozen?
  rw [h]; simp
theorem take_mid (P Q R : List Value) (a : Nat) (h1 : P.length = a) (h2 : Q.length = 33) : (P ++ (Q ++ R)).take (a + 33) = P ++ Q := by
  subst h1
  rw [List.take_length_add_append, ← h2, List.take_left]
/-- one trail more -/
theorem appendT {w : World} {base b : Nat} {v : Value} {ts : List Tr} {h : List UInt8} {n : UInt32} (ty : TypeId) (hown : OwnT w base v ts) (hok : OkT ts) (hh : h.length = 32) (hr : RowIs w b (trC h n)) (hlen : ts.length ≤ 1000) (hbase : base ≤ w.heap.size) :
    ∃ A' c' w', (Builtin.append_ #[73, 73] ty #[v, .slice (some ⟨b, 0, none⟩) 1 1]).run Tryd.prog w = .ok (.slice A' (ts.length + 1) c') w' ∧ OwnT w' base (.slice A' (ts.length + 1) c') (ts ++ [(h, n)]) ∧ Below base w w' ∧ (∀ k, k < w.heap.size → v.ownBlock ≠ some k → w'.heap[k]? = w.heap[k]?) ∧ (∀ k, (Value.slice A' (ts.length + 1) c').ownBlock = some k → v.ownBlock = some k ∨ w.heap.size ≤ k) := by
  obtain ⟨i, z, hi, hz, hs, hby, hzc⟩ := trInfo_parts
  have hr' : RowIs w b (trL h n).toArray := by rw [← trC_def]; exact hr
  have hnews : ∀ j u, (trL h n)[j]? = some u → w.cell? ((⟨b, 0, none⟩ : Addr).add j) = some u := fun j u hu => by
    have := hr'.range 0 (trL h n).length j u (by rw [List.drop_zero, List.take_length]; exact hu)
    rw [Addr.add_mid]; exact this
  have hnl : (trL h n).length = 1 * i.size := by rw [trL_length h hh, hs]
  rcases hown with ⟨rfl, rfl⟩ | ⟨g, o, c, cur, rfl, hg, hhp, hnc, hcm, hcs, htk⟩
  · have hrun := run_append_nil (P := Tryd.prog) w 73 ty 64 i z Tryd.underlying73 hi hz ⟨b, 0, none⟩ 1 1 (trL h n) hnl hnews (by omega) (by omega) (by rw [hby]; omega)
    refine ⟨_, _, _, hrun, .inr ⟨w.heap.size, 0, _, _, rfl, hbase, heap_alloc_new w.drew _, ?_, ?_, ?_, ?_⟩, ((Below.refl base w).drew).alloc (by simpa using hbase) _, fun k hk _ => (((Below.refl w.heap.size w).drew).alloc (Nat.le_refl _) _).block k hk, fun k hk => .inr (by have := Option.some.inj hk; exact Nat.le_of_eq this)⟩
    · exact grownCap_ge _ _ _ _
    · exact grownCap_le_maxLen _ _ _ _ (by simp only [maxLen]; omega)
    · have := grownCap_ge w 1 0 64
      rw [Array.size_append, size_zeroCells, hzc, List.size_toArray, trL_length h hh]; omega
    · simp only [List.drop_zero, List.nil_append, List.length_singleton, Array.toList_append, flatT, List.flatMap_cons, List.flatMap_nil, List.append_nil]
      rw [List.take_append_of_le_length (by rw [trL_length h hh]; omega), List.take_of_length_le (by rw [trL_length h hh]; omega)]
  · have hfl := flatT_length ts hok
    by_cases hroom : ts.length + 1 ≤ c
    · have hcell : ∀ j, j < 33 → ∃ u, w.cell? ⟨g, o + ts.length * i.size + j, none⟩ = some u := fun j hj => by
        rw [cell_of_row w g _ cur _ (0, 0) hhp, hs]
        exact ⟨_, Array.getElem?_eq_getElem (by rw [hcs]; have : (ts.length + 1) * 33 ≤ c * 33 := Nat.mul_le_mul_right _ hroom; omega)⟩
      have hrun := run_append_room_cells (P := Tryd.prog) w 73 ty 64 i Tryd.underlying73 hi g o ts.length c ⟨b, 0, none⟩ 1 1 (trL h n) hnl hnews (trL_one h n) hroom
        (fun j hj => by obtain ⟨u, hu⟩ := hcell j (by rw [trL_length h hh] at hj; exact hj); rw [hu]; rfl) (fun j _ => frozen_row hhp)
      have hrow : RowIs w g cur.toList.toArray := by
        rw [Array.toArray_toList]
        exact ⟨⟨_, _, hhp⟩, by unfold rowOf; rw [hhp]; rfl⟩
      have hmul : (ts.length + 1) * 33 ≤ c * 33 := Nat.mul_le_mul_right _ hroom
      have hcl : cur.toList.length = o + c * 33 := by rw [Array.length_toList, hcs]
      rw [setCells_row (trL h n) (o + ts.length * i.size) w cur.toList hrow (by rw [trL_length h hh, hcl, hs]; omega), hs] at hrun
      refine ⟨_, _, _, hrun, .inr ⟨g, o, c, _, by rw [List.length_append]; rfl, hg, setRow_heap w g cur _ _ _ hhp, by rw [List.length_append]; simpa using hroom, hcm, ?_, ?_⟩, below_setRow (Below.refl base w) hg _, fun k hk hne => setRow_other w g k _ (fun e => hne (by simp [Value.ownBlock, e])), fun k hk => .inl hk⟩
      · rw [List.size_toArray, spl_length _ _ _ (by rw [trL_length h hh, hcl]; omega), hcl]
      · rw [flatT_app, List.length_append, List.length_singleton, ← htk]
        have l1 : (cur.toList.take (o + ts.length * 33)).length = o + ts.length * 33 := by rw [List.length_take, hcl]; omega
        rw [spl, List.append_assoc, List.drop_append_of_le_length (by rw [l1]; omega), List.drop_take, show o + ts.length * 33 - o = ts.length * 33 by omega]
        have l2 : ((cur.toList.drop o).take (ts.length * 33)).length = ts.length * 33 := by rw [htk, hfl]
        rw [show (ts.length + 1) * 33 = ts.length * 33 + 33 by omega]
        exact take_mid _ _ _ _ l2 (trL_length h hh n)
    · have hc1 : c = ts.length := by omega
      subst hc1
      have hrun := run_append_grow (P := Tryd.prog) w 73 ty 64 i z Tryd.underlying73 hi hz ⟨g, o, none⟩ ts.length ts.length (flatT ts) (by rw [hfl, hs])
        (fun j u hu => by
          rw [Addr.add_mid, cell_of_row w g _ cur _ (0, 0) hhp]
          have hj := (List.getElem?_eq_some_iff.1 hu).1
          rw [← htk, List.getElem?_take, if_pos (by rw [hfl] at hj; exact hj), List.getElem?_drop] at hu
          rw [← Array.getElem?_toList]; exact hu)
        ⟨b, 0, none⟩ 1 1 (trL h n) hnl hnews (by omega) (by omega) (by
          have := nextslicecap_le (need := ts.length + 1) (old := ts.length) (by omega)
          rw [hby]
          have h2 := Nat.mul_le_mul_right 36 this
          omega)
      have hge := grownCap_ge w (ts.length + 1) ts.length 64
      refine ⟨_, _, _, hrun, .inr ⟨w.heap.size, 0, _, _, by rw [List.length_append]; rfl, hbase, heap_alloc_new w.drew _, by rw [List.length_append]; exact hge, grownCap_le_maxLen _ _ _ _ (by simp only [maxLen]; omega), ?_, ?_⟩, ((Below.refl base w).drew).alloc (by simpa using hbase) _, fun k hk _ => (((Below.refl w.heap.size w).drew).alloc (Nat.le_refl _) _).block k hk, fun k hk => .inr (by have := Option.some.inj hk; exact Nat.le_of_eq this)⟩
      · rw [Array.size_append, Array.size_append, size_zeroCells, hzc, List.size_toArray, List.size_toArray, trL_length h hh, hfl]
        have : (ts.length + 1) * 33 ≤ grownCap w (ts.length + 1) ts.length 64 * 33 := Nat.mul_le_mul_right _ hge
        rw [Nat.sub_mul]; omega
      · rw [flatT_app, List.drop_zero, List.length_append, List.length_singleton]
        simp only [Array.toList_append]
        have l3 : (flatT ts ++ trL h n).length = (ts.length + 1) * 33 := by rw [List.length_append, hfl, trL_length h hh]; omega
        rw [List.take_append_of_le_length (by rw [l3]; exact Nat.le_refl _), List.take_of_length_le (by rw [l3]; exact Nat.le_refl _)]
theorem OwnT.lt {w : World} {base : Nat} {v : Value} {ts : List Tr} (h : OwnT w base v ts) {k : Nat} (hk : v.ownBlock = some k) : base ≤ k ∧ k < w.heap.size := by
  rcases h with ⟨h1, _⟩ | ⟨g, o, c, cur, hv, hg, hh, _⟩
  · rw [h1] at hk; simp [Value.ownBlock] at hk
  · rw [hv] at hk
    simp [Value.ownBlock] at hk
    subst hk
    exact ⟨hg, (Array.getElem?_eq_some_iff.1 hh).1⟩
@[irreducible] def nthT (ts : List Tr) (i : Nat) : Tr := ts.getD i ([], 0)
theorem nthT_def (ts : List Tr) (i : Nat) : nthT ts i = ts.getD i ([], 0) := by unfold nthT; rfl
theorem flatT_get : ∀ (ts : List Tr) (_ : OkT ts) (i : Nat), i < ts.length → ∀ j v, (trL (nthT ts i).1 (nthT ts i).2)[j]? = some v → (flatT ts)[i * 33 + j]? = some v
  | [], _, i, hi, _, _, _ => by simp at hi
  | a :: r, h, i, hi, j, v, hv => by
    have ha := h a (by simp)
    cases i with
    | zero =>
      rw [nthT_def] at hv
      have hv' : (trL a.1 a.2)[j]? = some v := by simpa using hv
      have hj : j < (trL a.1 a.2).length := (List.getElem?_eq_some_iff.1 hv').1
      rw [flatT, List.flatMap_cons, Nat.zero_mul, Nat.zero_add, List.getElem?_append_left hj]; exact hv'
    | succ i =>
      have hv' : (trL (nthT r i).1 (nthT r i).2)[j]? = some v := by
        rw [nthT_def] at hv ⊢; simpa using hv
      have := flatT_get r (fun k hk => h k (by simp [hk])) i (by simpa using hi) j v hv'
      rw [flatT, List.flatMap_cons, List.getElem?_append_right (by rw [trL_length _ ha]; omega), trL_length _ ha, ← flatT, show (i + 1) * 33 + j - 33 = i * 33 + j by omega]
      exact this
theorem nthT_ok {ts : List Tr} (h : OkT ts) {i : Nat} (hi : i < ts.length) : (nthT ts i).1.length = 32 := by
  rw [nthT_def, List.getD_eq_getElem?_getD, List.getElem?_eq_getElem hi]
  exact h _ (List.getElem_mem hi)
/-- its elements, each where it lies -/
theorem OwnT.elem {w : World} {base : Nat} {A : Option Addr} {n c : Nat} {ts : List Tr} (h : OwnT w base (.slice A n c) ts) (hok : OkT ts) {i : Nat} (hi : i < ts.length) : n = ts.length ∧ ∃ g o, A = some ⟨g, o, none⟩ ∧ g < w.heap.size ∧ w.rangeAt g (o + i * 33) (trL (nthT ts i).1 (nthT ts i).2) := by
  rcases h with ⟨h1, h2⟩ | ⟨g, o, c', cur, hv, hg, hh, hnc, hcm, hcs, htk⟩
  · rw [h2] at hi; simp at hi
  · injection hv with e1 e2 e3
    refine ⟨e2, g, o, e1, (Array.getElem?_eq_some_iff.1 hh).1, fun j v hv => ?_⟩
    have h1 := flatT_get ts hok i hi j v hv
    have hlt := (List.getElem?_eq_some_iff.1 h1).1
    rw [flatT_length ts hok] at hlt
    rw [← htk, List.getElem?_take, if_pos hlt, List.getElem?_drop, ← Nat.add_assoc] at h1
    rw [cell_of_row w g _ cur _ (0, 0) hh, ← Array.getElem?_toList]
    exact h1
theorem tr_num {w : World} {g o : Nat} {h : List UInt8} {n : UInt32} (hr : w.rangeAt g o (trL h n)) (hh : h.length = 32) : w.cell? ⟨g, o + 32, none⟩ = some (.int .u32 (n32 n)) := hr 32 _ (by rw [trL, List.getElem?_append_right (by rw [u8v_length]; omega), u8v_length, hh]; rfl)
/-- a past: its cell, its trails -/
def PastAt (w : World) (p base : Nat) (ts : List Tr) : Prop := ∃ v, RowIs w p #[v] ∧ OwnT w base v ts
theorem PastAt.step {w w' : World} {p base : Nat} {ts : List Tr} (h : PastAt w p base ts) (hb : Below w.heap.size w w') : PastAt w' p base ts := by
  obtain ⟨v, h1, h2⟩ := h
  exact ⟨v, h1.step hb, h2.step hb⟩
theorem PastAt.upd {w w' : World} {p base g : Nat} {ts : List Tr} (h : PastAt w p base ts) (hu : Upd g w w') (hg : g < base) (hp : p ≠ g) : PastAt w' p base ts := by
  obtain ⟨v, h1, h2⟩ := h
  exact ⟨v, h1.upd hu hp, h2.upd hu hg⟩
theorem pcell {w : World} {g : Nat} {v : Value} (h : RowIs w g #[v]) : w.cell? ⟨g, 0, none⟩ = some v := by
  obtain ⟨t, ht⟩ := h.row.heap
  rw [h.has] at ht
  rw [cell_of_row w g 0 _ t (0, 0) ht]; rfl
/-- what lies below base stays, but for block p -/
structure UpdB (p base : Nat) (w w' : World) : Prop where
  os : w'.os = w.os
  tape : w'.tape = w.tape
  output : w'.output = w.output
  size : w.heap.size ≤ w'.heap.size
  block : ∀ k, k < base → k ≠ p → w'.heap[k]? = w.heap[k]?
  past : ∀ v, w.cell? ⟨p, 0, none⟩ = some v → (∃ v', w'.cell? ⟨p, 0, none⟩ = some v' ∧ ∀ k, v'.ownBlock = some k → v.ownBlock = some k ∨ w.heap.size ≤ k) ∧ ∀ k, k < w.heap.size → k ≠ p → v.ownBlock ≠ some k → w'.heap[k]? = w.heap[k]?
theorem UpdB.below {p base B : Nat} {a w w' : World} (hb : Below B a w) (h : UpdB p base w w') (hp : B ≤ p) (hB : B ≤ base) : Below B a w' :=
  hb.trans ⟨h.os, h.tape, h.output, h.size, fun k hk => h.block k (by omega) (by omega)⟩
theorem RowIs.updB {w w' : World} {r p base : Nat} {cs : Array Value} (h : RowIs w r cs) (hu : UpdB p base w w') (hr : r < base) (hp : r ≠ p) : RowIs w' r cs := by
  have e := hu.block r hr hp
  exact ⟨by unfold IsRow; rw [e]; exact h.row, by unfold rowOf; rw [e]; exact h.has⟩
end
section
open Go.RowKit
theorem xbslT (ev : Operand → Value) (d : Option Tmp) (n : Nat) (ps : Array (Nat × Operand)) (ty : TypeId) (p : String) (af : Array Edge) (g : Option (Nat × Bool)) :
    execOp ev ⟨d, .buildSlice 73 n ps, ty, p, af, g⟩ = bsliceK 73 n (ps.map fun x => (x.1, ev x.2)) := exec_bsliceK ev d _ n ps ty p af g
theorem bslT1 (cs : Array Value) (hc : cs.size = 33) (w : World) : (bsliceK 73 1 #[(0, .agg cs)]).run Tryd.prog w = .ok (.value (.slice (some ⟨w.heap.size, 0, none⟩) 1 1)) (w.alloc (.cells cs 64)) :=
  run_bsliceK1 Tryd.underlying73 (by kernel_rfl) (by omega) (by omega) cs hc w
attribute [local go_sem ↓] xbslT xtrLoad
attribute [local go_sem] bslT1 trC_size trC_one
theorem wp_appendT {w : World} {o : Oper} {a : Act} {K : Act → World → Prop} {Q : Exit → Act → World → Prop} (s x : Operand)
    (ho : o.op = .call { callee := .builtin .append, args := #[s, x], argTypes := #[73, 73] })
    (base b : Nat) {v : Value} {ts : List Tr} {h : List UInt8} {n : UInt32} {N : Nat} (hs : a.eval s = v) (hown : OwnT w base v ts) (hok : OkT ts) (hx : a.eval x = .slice (some ⟨b, 0, none⟩) 1 1) (hr : RowIs w b (trC h n)) (hh : h.length = 32) (hN : ts.length + 1 = N)
    (hlen : ts.length ≤ 1000) (hbase : base ≤ w.heap.size)
    (hK : ∀ A' c' w', OwnT w' base (.slice A' N c') (ts ++ [(h, n)]) → Below base w w' → (∀ k, k < w.heap.size → v.ownBlock ≠ some k → w'.heap[k]? = w.heap[k]?) → (∀ k, (Value.slice A' N c').ownBlock = some k → v.ownBlock = some k ∨ w.heap.size ≤ k) → K (a.put o.dst (.slice A' N c')) w') : o.wp Tryd.prog a w K Q := by
  obtain ⟨A', c', w', hrun, h1, h2, h3, h4⟩ := appendT o.type hown hok hh hr hlen hbase
  rw [hN] at hrun h1 h4
  unfold Oper.wp execOp
  simp only [ho, resolve, invoke, builtin, Sem.run_bind, Sem.run_pure, Result.andThen_ok, List.map_toArray, List.map_cons, List.map_nil, hs, hx, hrun]
  exact hK A' c' w' h1 h2 h3 h4
def PastS (p b : Nat) (v : Value) (T : Array Value) (w : World) : Prop := RowIs w p #[v] ∧ RowIs w b T
def SameC (w0 w : World) : Prop := ∀ a, w.cell? a = w0.cell? a
def AddRes (p base : Nat) (c : Int) (ts : List Tr) (w : World) (e : Ending) (w' : World) : Prop := e = .returned (.int .i64 c) ∧ PastAt w' p base ts ∧ UpdB p base w w'
theorem UpdB.of {p base : Nat} {w w' : World} (h : Below w.heap.size w w') (hb : base ≤ w.heap.size) : UpdB p base w w' := ⟨h.os, h.tape, h.output, h.size, fun k hk _ => h.block k (by omega), fun v hv => ⟨⟨v, (h.cell (p := ⟨p, 0, none⟩) (World.block_lt_of_cell? w _ hv)).trans hv, fun _ hk => .inl hk⟩, fun k hk _ _ => h.block k hk⟩⟩
set_option maxRecDepth 100000 in
theorem add_full (p base : Nat) (ts : List Tr) (h : List UInt8) (n : UInt32) (w : World) (hp : PastAt w p base ts) (hbase : base ≤ w.heap.size) (h64 : 64 ≤ ts.length) (hl : ts.length ≤ 1000) :
    Calls Tryd.prog 47 #[.pointer (some ⟨p, 0, none⟩), .agg (trC h n)] w (AddRes p base 63 ts w) := by
  obtain ⟨v, h1, h2⟩ := id hp
  obtain ⟨A, c, rfl⟩ := h2.slice
  have hc := pcell h1
  obtain ⟨m, hm⟩ : ∃ m, m = ts.length := ⟨_, rfl⟩
  rw [← hm] at hc h64
  have hge : (64 : Int) ≤ m := by omega
  have hpl := h1.lt
  have hB : Below w.heap.size w (w.alloc (.cells (trC h n) 64)) := (by repeat (first | with_reducible exact Below.refl _ _ | with_reducible assumption | refine Below.drew ?_ | refine below_drewN ?_ | refine Below.alloc ?_ (by first | omega | (simp; done) | (simp; omega)) _ | refine below_setRow ?_ (by omega) _ | refine Below.setCell ?_ (by first | omega | (simp; done) | (simp; omega)) _))
  have hP := hp.step hB
  clear hm h1 h2 hp
  go_enter Tryd.func47, Tryd.ntmps47
  go_wp2_with fail
  go_ret
  exact ⟨rfl, hP, UpdB.of hB hbase⟩
set_option maxRecDepth 100000 in
set_option maxHeartbeats 1600000 in
theorem add_arg (p base : Nat) (ts : List Tr) (h : List UInt8) (hh : h.length = 32) (n : UInt32) (w : World) (hp : PastAt w p base ts) (hok : OkT ts) (hbase : base ≤ w.heap.size) (h64 : ts.length < 64) (h0 : 0 < ts.length) (hn : n ≠ (nthT ts (ts.length - 1)).2 + 1) :
    Calls Tryd.prog 47 #[.pointer (some ⟨p, 0, none⟩), .agg (trC h n)] w (AddRes p base 1 ts w) := by
  obtain ⟨v, h1, h2⟩ := id hp
  obtain ⟨A, c, rfl⟩ := h2.slice
  obtain ⟨-, g, o, rfl, hg, hel⟩ := h2.elem hok (i := ts.length - 1) (by omega)
  have hnum := tr_num hel (nthT_ok hok (by omega))
  obtain ⟨y, hy⟩ : ∃ y, y = (nthT ts (ts.length - 1)).2 := ⟨_, rfl⟩
  rw [← hy] at hnum hn
  have hc := pcell h1
  obtain ⟨m, hm⟩ : ∃ m, m = ts.length := ⟨_, rfl⟩
  rw [← hm] at hc hnum h64 h0
  have hpl := h1.lt
  have hB : Below w.heap.size w (w.alloc (.cells (trC h n) 64)) := (by repeat (first | with_reducible exact Below.refl _ _ | with_reducible assumption | refine Below.drew ?_ | refine below_drewN ?_ | refine Below.alloc ?_ (by first | omega | (simp; done) | (simp; omega)) _ | refine below_setRow ?_ (by omega) _ | refine Below.setCell ?_ (by first | omega | (simp; done) | (simp; omega)) _))
  have hP := hp.step hB
  have f1 := (hB.cell (p := ⟨p, 0, none⟩) hpl).trans hc
  have f2 := (hB.cell (p := ⟨g, o + (m - 1) * 33 + 32, none⟩) hg).trans hnum
  have f3 := TrRow.num (w := w.alloc (.cells (trC h n) 64)) (b := w.heap.size) (RowIs.new _ _ _) hh
  have i1 : ¬ (64 : Int) ≤ m := by omega
  have i2 : (0 : Int) < m := by omega
  have hsub : (m : Int) - 1 = ((m - 1 : Nat) : Int) := by omega
  have hi3 : (((m - 1 : Nat) : Int)) < m := by omega
  have hwr : IntKind.u32.wrap (n32 y + 1) = n32 (y + 1) := by rw [n32_def, n32_def, UInt32.toNat_add, wrap_u32]; simp
  have hne : ((n32 n : Int) != n32 (y + 1)) = true := by
    rw [bne_iff_ne]
    exact fun e => hn (n32_inj e)
  clear hm h1 h2 hp hel hy hn
  go_enter Tryd.func47, Tryd.ntmps47
  go_wp2_with fail
  obtain ⟨x, hx⟩ : ∃ x, x = w.alloc (.cells (trC h n) 64) := ⟨_, rfl⟩
  rw [← hx] at f1 f2 f3 hB hP ⊢
  clear hx
  refine wp_region_lexS [] [4, 8, 13] (SameC x) (by kernel_rfl) (by decide +kernel) (fun _ => rfl) (fun _ => ?_)
  (go_wp2_with (first | (refine wpLexS_nil ?_) | (refine wpLexS_pure rfl (fun _ _ => ?_); go_simp; refine ⟨_, fun w9 hw9 => (by have s1 := (hw9 _).trans f1; have s2 := (hw9 _).trans f2; have s3 := (hw9 _).trans f3; go_simp; rfl), ?_⟩) | (refine wpLexS_pure0 rfl (fun _ _ => ?_); go_simp; try go_bits) | (refine wpLexS_read rfl (fun _ _ => ?_); go_simp; try go_bits) | (refine wpLexS_loud rfl (fun KL hKL => ?_))))
  go_ret
  exact ⟨rfl, hP.step (Below.refl _ _).drew, UpdB.of hB.drew hbase⟩
set_option maxRecDepth 100000 in
set_option maxHeartbeats 3200000 in
theorem add_first (p base : Nat) (hpb : p < base) (h : List UInt8) (hh : h.length = 32) (n : UInt32) (w : World) (hp : PastAt w p base []) (hbase : base ≤ w.heap.size) :
    Calls Tryd.prog 47 #[.pointer (some ⟨p, 0, none⟩), .agg (trC h n)] w (AddRes p base 0 [(h, n)] w) := by
  obtain ⟨ts, hts⟩ : ∃ ts : List Tr, ts = [] := ⟨_, rfl⟩
  rw [← hts] at hp
  rw [show [(h, n)] = ts ++ [(h, n)] by rw [hts]; rfl]
  have hok : OkT ts := by rw [hts]; intro t ht; simp at ht
  obtain ⟨v, h1, h2⟩ := id hp
  obtain ⟨A, c, rfl⟩ := h2.slice
  have hc := pcell h1
  obtain ⟨m, hm⟩ : ∃ m, m = ts.length := ⟨_, rfl⟩
  rw [← hm] at h1 h2 hc
  have hm0 : m = 0 := by rw [hm, hts]; rfl
  have HM := Lib.hid hm.symm
  have hpl := h1.lt
  have h2o : ∀ {k : Nat}, (Value.slice A m c).ownBlock = some k → k < w.heap.size := fun e => (h2.lt e).2
  have hB : Below w.heap.size w (w.alloc (.cells (trC h n) 64)) := (by repeat (first | with_reducible exact Below.refl _ _ | with_reducible assumption | refine Below.drew ?_ | refine below_drewN ?_ | refine Below.alloc ?_ (by first | omega | (simp; done) | (simp; omega)) _ | refine below_setRow ?_ (by omega) _ | refine Below.setCell ?_ (by first | omega | (simp; done) | (simp; omega)) _))
  have RB : RowIs (w.alloc (.cells (trC h n) 64)) w.heap.size (trC h n) := RowIs.new _ _ _
  have f1 := (hB.cell (p := ⟨p, 0, none⟩) hpl).trans hc
  replace h1 := h1.step hB
  replace h2 := h2.step hB
  have hbx := RB.lt
  have i1 : ¬ (64 : Int) ≤ m := by omega
  have i2 : ¬ (0 : Int) < m := by omega
  have HC0 := Lib.hid hc
  clear hm hm0 hts hp hc
  go_enter Tryd.func47, Tryd.ntmps47
  go_wp2_with fail
  obtain ⟨x0, hx⟩ : ∃ x, x = w.alloc (.cells (trC h n) 64) := ⟨_, rfl⟩
  rw [← hx] at f1 hB RB h1 h2 hbx ⊢
  clear hx
  refine wp_region_lexS [] [4, 8, 13] (SameC x0) (by kernel_rfl) (by decide +kernel) (fun _ => rfl) (fun _ => ?_)
  (go_wp2_with (first | (refine wpLexS_nil ?_) | (refine wpLexS_pure rfl (fun _ _ => ?_); go_simp; refine ⟨_, fun w9 hw9 => (by have s1 := (hw9 _).trans f1; go_simp; rfl), ?_⟩) | (refine wpLexS_pure0 rfl (fun _ _ => ?_); go_simp; try go_bits) | (refine wpLexS_read rfl (fun _ _ => ?_); go_simp; try go_bits) | (refine wpLexS_loud rfl (fun KL hKL => ?_))))
  have hd : Below x0.heap.size x0 x0.drew := (by repeat (first | with_reducible exact Below.refl _ _ | with_reducible assumption | refine Below.drew ?_ | refine below_drewN ?_ | refine Below.alloc ?_ (by first | omega | (simp; done) | (simp; omega)) _ | refine below_setRow ?_ (by omega) _ | refine Below.setCell ?_ (by first | omega | (simp; done) | (simp; omega)) _))
  replace h1 := h1.step hd
  replace h2 := h2.step hd
  replace RB := RB.step hd
  replace hB := hB.trans (hd.mono hB.size)
  have hbx : w.heap.size < x0.drew.heap.size := hbx
  generalize x0.drew = x at h1 h2 RB hB hbx ⊢
  clear hd f1
  refine wp_region_lexT [] [4, 5] (PastS p w.heap.size (.slice A m c) (trC h n)) (by kernel_rfl) (by decide +kernel) ⟨h1.drew, RB.drew⟩ (fun hS => ?_)
  have hd : Below x.heap.size x x.drew := (by repeat (first | with_reducible exact Below.refl _ _ | with_reducible assumption | refine Below.drew ?_ | refine below_drewN ?_ | refine Below.alloc ?_ (by first | omega | (simp; done) | (simp; omega)) _ | refine below_setRow ?_ (by omega) _ | refine Below.setCell ?_ (by first | omega | (simp; done) | (simp; omega)) _))
  replace h2 := h2.step hd
  replace hB := hB.trans (hd.mono hB.size)
  have hbx' : w.heap.size < x.drew.heap.size := hbx
  generalize x.drew = x1 at h2 hS hB hbx' ⊢
  clear h1 RB hd
  (go_wp2_with (first | (refine wpLexT_pure rfl (fun _ _ => ?_); go_simp; refine ⟨_, fun w9 hw9 => (by have s1 := pcell hw9.1; have s2 := trload hw9.2 hh; go_simp; rfl), ?_⟩) | (refine wpLexT_pure0 rfl (fun _ _ => ?_); go_simp; try go_bits) | (refine wpLexT_read rfl (fun _ _ => ?_); go_simp; try go_bits)))
  refine wpLexT_loud rfl (fun KL hKL => ?_)
  go_wp2_with fail
  have hq : Below x1.heap.size x1 (x1.alloc (.cells (trC h n) 64)) := (by repeat (first | with_reducible exact Below.refl _ _ | with_reducible assumption | refine Below.drew ?_ | refine below_drewN ?_ | refine Below.alloc ?_ (by first | omega | (simp; done) | (simp; omega)) _ | refine below_setRow ?_ (by omega) _ | refine Below.setCell ?_ (by first | omega | (simp; done) | (simp; omega)) _))
  have RN : RowIs (x1.alloc (.cells (trC h n) 64)) x1.heap.size (trC h n) := RowIs.new _ _ _
  replace h2 := h2.step hq
  replace hB := hB.trans (hq.mono hB.size)
  have hx1 : base ≤ (x1.alloc (.cells (trC h n) 64)).heap.size := by simp; omega
  refine hKL _ _ ⟨hS.1.step hq, hS.2.step hq⟩ (fun _ => ?_)
  have hS2 : PastS p w.heap.size (.slice A m c) (trC h n) (x1.alloc (.cells (trC h n) 64)) := ⟨hS.1.step hq, hS.2.step hq⟩
  have hbx2 := hS2.2.lt
  clear hS hq
  (go_wp2_with (first | (refine wpLexT_pure rfl (fun _ _ => ?_); go_simp; refine ⟨_, fun w9 hw9 => (by have s1 := pcell hw9.1; have s2 := trload hw9.2 hh; go_simp; rfl), ?_⟩) | (refine wpLexT_pure0 rfl (fun _ _ => ?_); go_simp; try go_bits) | (refine wpLexT_read rfl (fun _ _ => ?_); go_simp; try go_bits)))
  refine wpLexT_loud rfl (fun KL hKL => ?_)
  refine wpList_wanted (by rfl) (fun K1 hK1 => ?_)
  refine wp_appendT (N := m + 1) (.tmp 36) (.tmp 38) rfl base x1.heap.size rfl h2 hok rfl RN hh (by rw [HM.out]) (by rw [HM.out]; omega) hx1 ?_
  intro A5 c5 w5 own5 bel5 oth5 nb5
  refine hK1 _ _ ?_
  go_wp2_with fail
  have hob : (Value.slice A m c).ownBlock ≠ some w.heap.size := fun e => by have := h2o e; omega
  have hSp : RowIs w5 p #[.slice A m c] := hS2.1.below bel5 hpb
  have hSb : RowIs w5 w.heap.size (trC h n) := by
    have e := oth5 w.heap.size hbx2 hob
    exact ⟨by unfold IsRow; rw [e]; exact hS2.2.row, by unfold rowOf; rw [e]; exact hS2.2.has⟩
  refine hKL _ _ ⟨hSp, hSb⟩ (fun _ => ?_)
  have cp := pcell hSp
  have fp := RowIs.fz hSp 0
  (go_wp2_with (first | (refine wpLexT_pure rfl (fun _ _ => ?_); go_simp; refine ⟨_, fun w9 hw9 => (by have s1 := pcell hw9.1; have s2 := trload hw9.2 hh; go_simp; rfl), ?_⟩) | (refine wpLexT_pure0 rfl (fun _ _ => ?_); go_simp; try go_bits) | (refine wpLexT_read rfl (fun _ _ => ?_); go_simp; try go_bits)))
  refine wpLexT_last (fun KL hKL => ?_)
  go_wp2_with fail
  go_ret
  have hown6 : OwnT (w5.setCell ⟨p, 0, none⟩ (.slice A5 (m + 1) c5)) base (.slice A5 (m + 1) c5) (ts ++ [(h, n)]) := own5.keep fun k hk _ => Below.heap_setCell _ _ _ _ (by simp; omega)
  refine ⟨rfl, ⟨_, by simpa using hSp.put 0 (.slice A5 (m + 1) c5), hown6⟩, ?_⟩
  have hB5 : Below base w w5 := (hB.mono hbase).trans bel5
  refine ⟨hB5.os, hB5.tape, hB5.output, by simp [World.setCell]; exact hB5.size, fun k hk hne => (Below.heap_setCell _ _ _ _ (by simpa using hne)).trans (hB5.block k hk), fun v hv => ?_⟩
  rw [HC0.out] at hv
  obtain rfl := Option.some.inj hv
  refine ⟨⟨_, pcell (show RowIs _ _ #[_] from by simpa using hSp.put 0 (.slice A5 (m + 1) c5)), fun k hk => (nb5 k hk).imp id (fun h => Nat.le_trans hB.size h)⟩, fun k hk hne hno => (Below.heap_setCell _ _ _ _ (by simpa using hne)).trans ?_⟩
  exact (oth5 k (Nat.lt_of_lt_of_le hk hB.size) hno).trans (hB.block k hk)
set_option maxRecDepth 100000 in
set_option maxHeartbeats 3200000 in
theorem add_ok (p base : Nat) (hpb : p < base) (ts : List Tr) (H0 : List UInt8) (hh : H0.length = 32) (n : UInt32) (w : World) (hp : PastAt w p base ts) (hok : OkT ts) (hbase : base ≤ w.heap.size) (h64 : ts.length < 64) (h0 : 0 < ts.length) (hn : n = (nthT ts (ts.length - 1)).2 + 1) :
    Calls Tryd.prog 47 #[.pointer (some ⟨p, 0, none⟩), .agg (trC H0 n)] w (AddRes p base 0 (ts ++ [(H0, n)]) w) := by
  obtain ⟨v, h1, h2⟩ := id hp
  obtain ⟨A, c, rfl⟩ := h2.slice
  obtain ⟨-, g, o, rfl, hg, hel⟩ := h2.elem hok (i := ts.length - 1) (by omega)
  have hnum := tr_num hel (nthT_ok hok (by omega))
  obtain ⟨y, hy⟩ : ∃ y, y = (nthT ts (ts.length - 1)).2 := ⟨_, rfl⟩
  rw [← hy] at hnum hn
  obtain ⟨A, hA⟩ : ∃ A : Option Addr, A = some ⟨g, o, none⟩ := ⟨_, rfl⟩
  have hc := pcell h1
  obtain ⟨m, hm⟩ : ∃ m, m = ts.length := ⟨_, rfl⟩
  rw [← hm] at h1 h2 hc hnum h64 h0
  have HM := Lib.hid hm.symm
  have hpl := h1.lt
  have h2o : ∀ {k : Nat}, (Value.slice (some ⟨g, o, none⟩) m c).ownBlock = some k → k < w.heap.size := fun e => (h2.lt e).2
  have hB : Below w.heap.size w (w.alloc (.cells (trC H0 n) 64)) := (by repeat (first | with_reducible exact Below.refl _ _ | with_reducible assumption | refine Below.drew ?_ | refine below_drewN ?_ | refine Below.alloc ?_ (by first | omega | (simp; done) | (simp; omega)) _ | refine below_setRow ?_ (by omega) _ | refine Below.setCell ?_ (by first | omega | (simp; done) | (simp; omega)) _))
  have RB : RowIs (w.alloc (.cells (trC H0 n) 64)) w.heap.size (trC H0 n) := RowIs.new _ _ _
  have f1 := (hB.cell (p := ⟨p, 0, none⟩) hpl).trans hc
  have f2 := (hB.cell (p := ⟨g, o + (m - 1) * 33 + 32, none⟩) hg).trans hnum
  have f3 := TrRow.num (w := w.alloc (.cells (trC H0 n) 64)) (b := w.heap.size) RB hh
  replace h1 := h1.step hB
  replace h2 := h2.step hB
  have hbx := RB.lt
  have i1 : ¬ (64 : Int) ≤ m := by omega
  have i2 : (0 : Int) < m := by omega
  have hsub : (m : Int) - 1 = ((m - 1 : Nat) : Int) := by omega
  have hi3 : (((m - 1 : Nat) : Int)) < m := by omega
  have hwr : IntKind.u32.wrap (n32 y + 1) = n32 n := by rw [hn, n32_def, n32_def, UInt32.toNat_add, wrap_u32]; simp
  have hne : ((n32 n : Int) != n32 n) = false := by simp
  have HC0 := Lib.hid hc
  clear hm hp hc hel hy hn hA A hnum
  go_enter Tryd.func47, Tryd.ntmps47
  go_wp2_with fail
  obtain ⟨x0, hx⟩ : ∃ x, x = w.alloc (.cells (trC H0 n) 64) := ⟨_, rfl⟩
  rw [← hx] at f1 f2 f3 hB RB h1 h2 hbx ⊢
  clear hx
  refine wp_region_lexS [] [4, 8, 13] (SameC x0) (by kernel_rfl) (by decide +kernel) (fun _ => rfl) (fun _ => ?_)
  (go_wp2_with (first | (refine wpLexS_nil ?_) | (refine wpLexS_pure rfl (fun _ _ => ?_); go_simp; refine ⟨_, fun w9 hw9 => (by have s1 := (hw9 _).trans f1; have s2 := (hw9 _).trans f2; have s3 := (hw9 _).trans f3; go_simp; rfl), ?_⟩) | (refine wpLexS_pure0 rfl (fun _ _ => ?_); go_simp; try go_bits) | (refine wpLexS_read rfl (fun _ _ => ?_); go_simp; try go_bits) | (refine wpLexS_loud rfl (fun KL hKL => ?_))))
  have hd : Below x0.heap.size x0 x0.drew := (by repeat (first | with_reducible exact Below.refl _ _ | with_reducible assumption | refine Below.drew ?_ | refine below_drewN ?_ | refine Below.alloc ?_ (by first | omega | (simp; done) | (simp; omega)) _ | refine below_setRow ?_ (by omega) _ | refine Below.setCell ?_ (by first | omega | (simp; done) | (simp; omega)) _))
  replace h1 := h1.step hd
  replace h2 := h2.step hd
  replace RB := RB.step hd
  replace hB := hB.trans (hd.mono hB.size)
  have hbx : w.heap.size < x0.drew.heap.size := hbx
  generalize x0.drew = x at h1 h2 RB hB hbx ⊢
  clear hd f1 f2 f3
  refine wp_region_lexT [] [4, 5] (PastS p w.heap.size (.slice (some ⟨g, o, none⟩) m c) (trC H0 n)) (by kernel_rfl) (by decide +kernel) ⟨h1.drew, RB.drew⟩ (fun hS => ?_)
  have hd : Below x.heap.size x x.drew := (by repeat (first | with_reducible exact Below.refl _ _ | with_reducible assumption | refine Below.drew ?_ | refine below_drewN ?_ | refine Below.alloc ?_ (by first | omega | (simp; done) | (simp; omega)) _ | refine below_setRow ?_ (by omega) _ | refine Below.setCell ?_ (by first | omega | (simp; done) | (simp; omega)) _))
  replace h2 := h2.step hd
  replace hB := hB.trans (hd.mono hB.size)
  have hbx' : w.heap.size < x.drew.heap.size := hbx
  generalize x.drew = x1 at h2 hS hB hbx' ⊢
  clear h1 RB hd
  (go_wp2_with (first | (refine wpLexT_pure rfl (fun _ _ => ?_); go_simp; refine ⟨_, fun w9 hw9 => (by have s1 := pcell hw9.1; have s2 := trload hw9.2 hh; go_simp; rfl), ?_⟩) | (refine wpLexT_pure0 rfl (fun _ _ => ?_); go_simp; try go_bits) | (refine wpLexT_read rfl (fun _ _ => ?_); go_simp; try go_bits)))
  refine wpLexT_loud rfl (fun KL hKL => ?_)
  go_wp2_with fail
  have hq : Below x1.heap.size x1 (x1.alloc (.cells (trC H0 n) 64)) := (by repeat (first | with_reducible exact Below.refl _ _ | with_reducible assumption | refine Below.drew ?_ | refine below_drewN ?_ | refine Below.alloc ?_ (by first | omega | (simp; done) | (simp; omega)) _ | refine below_setRow ?_ (by omega) _ | refine Below.setCell ?_ (by first | omega | (simp; done) | (simp; omega)) _))
  have RN : RowIs (x1.alloc (.cells (trC H0 n) 64)) x1.heap.size (trC H0 n) := RowIs.new _ _ _
  replace h2 := h2.step hq
  replace hB := hB.trans (hq.mono hB.size)
  have hx1 : base ≤ (x1.alloc (.cells (trC H0 n) 64)).heap.size := by simp; omega
  refine hKL _ _ ⟨hS.1.step hq, hS.2.step hq⟩ (fun _ => ?_)
  have hS2 : PastS p w.heap.size (.slice (some ⟨g, o, none⟩) m c) (trC H0 n) (x1.alloc (.cells (trC H0 n) 64)) := ⟨hS.1.step hq, hS.2.step hq⟩
  have hbx2 := hS2.2.lt
  clear hS hq
  (go_wp2_with (first | (refine wpLexT_pure rfl (fun _ _ => ?_); go_simp; refine ⟨_, fun w9 hw9 => (by have s1 := pcell hw9.1; have s2 := trload hw9.2 hh; go_simp; rfl), ?_⟩) | (refine wpLexT_pure0 rfl (fun _ _ => ?_); go_simp; try go_bits) | (refine wpLexT_read rfl (fun _ _ => ?_); go_simp; try go_bits)))
  refine wpLexT_loud rfl (fun KL hKL => ?_)
  refine wpList_wanted (by rfl) (fun K1 hK1 => ?_)
  refine wp_appendT (N := m + 1) (.tmp 36) (.tmp 38) rfl base x1.heap.size rfl h2 hok rfl RN hh (by rw [HM.out]) (by rw [HM.out]; omega) hx1 ?_
  intro A5 c5 w5 own5 bel5 oth5 nb5
  refine hK1 _ _ ?_
  go_wp2_with fail
  have hob : (Value.slice (some ⟨g, o, none⟩) m c).ownBlock ≠ some w.heap.size := fun e => by have := h2o e; omega
  have hSp : RowIs w5 p #[.slice (some ⟨g, o, none⟩) m c] := hS2.1.below bel5 hpb
  have hSb : RowIs w5 w.heap.size (trC H0 n) := by
    have e := oth5 w.heap.size hbx2 hob
    exact ⟨by unfold IsRow; rw [e]; exact hS2.2.row, by unfold rowOf; rw [e]; exact hS2.2.has⟩
  refine hKL _ _ ⟨hSp, hSb⟩ (fun _ => ?_)
  have cp := pcell hSp
  have fp := RowIs.fz hSp 0
  (go_wp2_with (first | (refine wpLexT_pure rfl (fun _ _ => ?_); go_simp; refine ⟨_, fun w9 hw9 => (by have s1 := pcell hw9.1; have s2 := trload hw9.2 hh; go_simp; rfl), ?_⟩) | (refine wpLexT_pure0 rfl (fun _ _ => ?_); go_simp; try go_bits) | (refine wpLexT_read rfl (fun _ _ => ?_); go_simp; try go_bits)))
  refine wpLexT_last (fun KL hKL => ?_)
  go_wp2_with fail
  go_ret
  have hown6 : OwnT (w5.setCell ⟨p, 0, none⟩ (.slice A5 (m + 1) c5)) base (.slice A5 (m + 1) c5) (ts ++ [(H0, n)]) := own5.keep fun k hk _ => Below.heap_setCell _ _ _ _ (by simp; omega)
  refine ⟨rfl, ⟨_, by simpa using hSp.put 0 (.slice A5 (m + 1) c5), hown6⟩, ?_⟩
  have hB5 : Below base w w5 := (hB.mono hbase).trans bel5
  refine ⟨hB5.os, hB5.tape, hB5.output, by simp [World.setCell]; exact hB5.size, fun k hk hne => (Below.heap_setCell _ _ _ _ (by simpa using hne)).trans (hB5.block k hk), fun v hv => ?_⟩
  rw [HC0.out] at hv
  obtain rfl := Option.some.inj hv
  refine ⟨⟨_, pcell (show RowIs _ _ #[_] from by simpa using hSp.put 0 (.slice A5 (m + 1) c5)), fun k hk => (nb5 k hk).imp id (fun h => Nat.le_trans hB.size h)⟩, fun k hk hne hno => (Below.heap_setCell _ _ _ _ (by simpa using hne)).trans ?_⟩
  exact (oth5 k (Nat.lt_of_lt_of_le hk hB.size) hno).trans (hB.block k hk)
end
section
open Go.RowKit
attribute [local go_sem ↓] xtrLoad
attribute [local go_sem] trC_size trC_one
theorem tload_at {w : World} {g o : Nat} {h : List UInt8} {n : UInt32} (hr : w.rangeAt g o (trL h n)) (hh : h.length = 32) : (loadAgg 64 (.pointer (some ⟨g, o, none⟩))).run Tryd.prog w = .ok (.value (.agg (trC h n))) w := by
  have := run_loadAt_mid (P := Tryd.prog) w g o 64 (trL h n) _ hr Tryd.underlying64 (by kernel_rfl) (by rw [trL_length h hh]; kernel_rfl)
  unfold loadAgg
  simp only [Sem.run_bind, this, Result.andThen_ok, Sem.run_pure]
  rw [trC_def]
theorem thead_at {w : World} {g o : Nat} {h : List UInt8} {n : UInt32} (hr : w.rangeAt g o (trL h n)) (hh : h.length = 32) : (loadAgg 33 (.pointer (some ⟨g, o, none⟩))).run Tryd.prog w = .ok (.value (.agg (u8s h))) w := by
  have hr' : w.rangeAt g o (u8v h) := fun j v hv => hr j v (by rw [trL, List.getElem?_append_left (List.getElem?_eq_some_iff.1 hv).1]; exact hv)
  have := run_loadAt_mid (P := Tryd.prog) w g o 33 (u8v h) _ hr' Tryd.underlying33 (by kernel_rfl) (by rw [u8v_length, hh]; kernel_rfl)
  unfold loadAgg
  simp only [Sem.run_bind, this, Result.andThen_ok, Sem.run_pure]
  rw [u8s_toArray]
set_option maxRecDepth 100000 in
theorem find1_any (b : Nat) (h : List UInt8) (hh : h.length = 32) (m n : UInt32) (w : World) (hb : w.cell? ⟨b, 0, none⟩ = some (.int .u32 (n32 n))) :
    Calls Tryd.prog 87 #[.agg (trC h m), .pointer (some ⟨b, 0, none⟩)] w fun e w' => e = .returned (.bool (decide (m = n))) ∧ Below w.heap.size w w' := by
  have hbl := World.block_lt_of_cell? w _ hb
  have hB : Below w.heap.size w (w.alloc (.cells (trC h m) 64)) := (by repeat (first | with_reducible exact Below.refl _ _ | with_reducible assumption | refine Below.drew ?_ | refine below_drewN ?_ | refine Below.alloc ?_ (by first | omega | (simp; done) | (simp; omega)) _ | refine below_setRow ?_ (by omega) _ | refine Below.setCell ?_ (by first | omega | (simp; done) | (simp; omega)) _))
  have f1 := (hB.cell (p := ⟨b, 0, none⟩) hbl).trans hb
  have f2 := TrRow.num (w := w.alloc (.cells (trC h m) 64)) (b := w.heap.size) (RowIs.new _ _ _) hh
  by_cases hmn : m = n
  · subst hmn
    go_enter Tryd.func87, Tryd.ntmps87
    go_wp2_with fail
    go_ret
    exact ⟨by simp, hB⟩
  · have hne : ((n32 m : Int) == n32 n) = false := by
      rw [beq_eq_false_iff_ne]
      exact fun e => hmn (n32_inj e)
    have HMN := Lib.hid hmn
    clear hmn
    go_enter Tryd.func87, Tryd.ntmps87
    go_wp2_with fail
    go_ret
    exact ⟨by simp [HMN.out], hB⟩
def IdxRes (ts : List Tr) (n : UInt32) (w : World) (e : Ending) (w' : World) : Prop :=
  ((∃ i : Nat, i < ts.length ∧ e = .returned (.int .i64 i) ∧ (nthT ts i).2 = n ∧ ∀ j, j < i → (nthT ts j).2 ≠ n) ∨ (e = .returned (.int .i64 (-1)) ∧ ∀ j, j < ts.length → (nthT ts j).2 ≠ n)) ∧ Below w.heap.size w w'
set_option maxRecDepth 100000 in
set_option maxHeartbeats 1600000 in
theorem index_any (b base : Nat) (v : Value) (ts : List Tr) (hok : OkT ts) (n : UInt32) (w : World) (hv : OwnT w base v ts) (hl : ts.length ≤ 1000) (hb : w.cell? ⟨b, 0, none⟩ = some (.int .u32 (n32 n))) :
    Calls Tryd.prog 86 #[v, .func (.func 87) #[] #[.pointer (some ⟨b, 0, none⟩)]] w (IdxRes ts n w) := by
  obtain ⟨A, c, rfl⟩ := hv.slice
  have HV := Lib.hid hv
  have hbl := World.block_lt_of_cell? w _ hb
  obtain ⟨m, hm⟩ : ∃ m, m = ts.length := ⟨_, rfl⟩
  have HM := Lib.hid hm
  rw [← hm] at hl ⊢
  clear hm hv
  go_enter Tryd.func86, Tryd.ntmps86
  go_wp2_with fail
  go_loopw [5, 8] (fun _ i wr => ∃ k : Nat, i = .int .i64 k ∧ k ≤ m ∧ Below w.heap.size w wr ∧ ∀ j, j < k → (nthT ts j).2 ≠ n) (fun _ i _ => m - (intOf i).toNat)
  case atStart => exact ⟨0, rfl, by omega, Below.refl _ _, fun j hj => absurd hj (by omega)⟩
  case round =>
    obtain ⟨k, rfl, hk, hB, hall⟩ := hrel
    have HA := Lib.hid hall
    clear hall
    by_cases hlt : k < m
    · have hlt' : k < ts.length := by rw [← HM.out]; exact hlt
      obtain ⟨-, g, o, rfl, hg, hel⟩ := HV.out.elem hok hlt'
      have hh := nthT_ok hok hlt'
      obtain ⟨hd0, hhd⟩ : ∃ x, x = (nthT ts k).1 := ⟨_, rfl⟩
      obtain ⟨y, hy⟩ : ∃ x, x = (nthT ts k).2 := ⟨_, rfl⟩
      rw [← hhd, ← hy] at hel
      rw [← hhd] at hh
      have HY := Lib.hid hy
      have helr : wr.rangeAt g (o + k * 33) (trL hd0 y) := fun j u hu => (hB.cell (p := ⟨g, o + k * 33 + j, none⟩) hg).trans (hel j u hu)
      have hL := tload_at helr hh
      have fb := (hB.cell (p := ⟨b, 0, none⟩) hbl).trans hb
      have hk0 : (0 : Int) ≤ (k : Int) := by omega
      have hk1 : (k : Int) < m := by omega
      have cc := Lib.hid (find1_any b hd0 hh y n wr fb)
      clear hhd hy hel helr
      go_wp2_with fail
      refine cc.out.mono ?_
      rintro e w1 ⟨rfl, hb1⟩
      have hB1 := hB.trans (hb1.mono hB.size)
      by_cases hyn : y = n
      · have HYN := Lib.hid hyn
        have hdec : decide (y = n) = true := by simp [hyn]
        clear hyn
        go_wp2_with fail
        go_ret
        exact ⟨.inl ⟨k, hlt', rfl, by rw [← HY.out]; exact HYN.out, HA.out⟩, hB1⟩
      · have HYN := Lib.hid hyn
        have hdec : decide (y = n) = false := by simp [hyn]
        clear hyn
        go_wp2_with fail
        exact ⟨⟨k + 1, by go_num, by omega, hB1, fun j hj => by
          rcases Nat.lt_or_ge j k with hjk | hjk
          · exact HA.out j hjk
          · obtain rfl : j = k := by omega
            rw [← HY.out]; exact HYN.out⟩, by simp [intOf]; omega⟩
    · have ek : k = m := by omega
      subst ek
      go_wp2_with fail
      go_ret
      exact ⟨.inr ⟨rfl, by rw [← HM.out]; exact HA.out⟩, hB⟩
theorem bodyPost_rowTmpT {P : Program} {fn : Func} {R : Ending → World → Prop} {a : Act} {w : World} (p u : Tmp) (ty : TypeId) (g n : Nat) (hres : fn.results = #[.cell p ty, .tmp u])
    (hp : a.tmps.getD p undef = .pointer (some ⟨g, 0, none⟩)) (hn : 0 < n) (hu : (match P.underlying ty with | some (.struct _) | some (.array _ _) => true | _ => false) = true)
    (hi : (P.info? ty).map (·.size) = some n) (hr : (rowOf w g).size = n) (hd : a.defers = []) (hR : R (.returned (.tuple #[.agg (rowOf w g), a.tmps.getD u undef])) w) : bodyPost P fn R .ret a w := by
  obtain ⟨t, ht⟩ := rowOf_some hr hn
  cases hdd : P.underlying ty with
  | none => simp [hdd] at hu
  | some d =>
    refine bodyPost_ret ?_ hd hR
    rw [results_cell_tmp hres, hp]
    have := run_loadVar_row w g t ty _ (0, 0) d ht hdd (by rw [hdd] at hu; cases d <;> simp_all) (by rw [hi, hr])
    simp [asAddr, this, Result.andThen]
def FindRes (ts : List Tr) (n : UInt32) (w : World) (e : Ending) (w' : World) : Prop :=
  ((∃ i : Nat, i < ts.length ∧ e = .returned (.tuple #[.agg (u8s (nthT ts i).1), .int .i64 0]) ∧ (nthT ts i).2 = n ∧ ∀ j, j < i → (nthT ts j).2 ≠ n) ∨ (e = .returned (.tuple #[.agg (u8s (zeros 32)), .int .i64 62]) ∧ ∀ j, j < ts.length → (nthT ts j).2 ≠ n)) ∧ Below w.heap.size w w'
set_option maxRecDepth 100000 in
set_option maxHeartbeats 1600000 in
theorem find_any (p base : Nat) (ts : List Tr) (hok : OkT ts) (n : UInt32) (w : World) (hp : PastAt w p base ts) (hl : ts.length ≤ 1000) :
    Calls Tryd.prog 48 #[.pointer (some ⟨p, 0, none⟩), .int .u32 (n32 n)] w (FindRes ts n w) := by
  obtain ⟨v, h1, h2⟩ := hp
  obtain ⟨A, c, rfl⟩ := h2.slice
  obtain ⟨m, hm⟩ : ∃ m, m = ts.length := ⟨_, rfl⟩
  have HM := Lib.hid hm
  rw [← hm] at h1 h2 hl
  clear hm
  have hc := pcell h1
  have hpl := h1.lt
  have hB : Below w.heap.size w ((w.alloc (.cells #[.int .u32 (n32 n)] 22)).alloc (.cells (u8s (zeros 32)) 33)) := (by repeat (first | with_reducible exact Below.refl _ _ | with_reducible assumption | refine Below.drew ?_ | refine below_drewN ?_ | refine Below.alloc ?_ (by first | omega | (simp; done) | (simp; omega)) _ | refine below_setRow ?_ (by omega) _ | refine Below.setCell ?_ (by first | omega | (simp; done) | (simp; omega)) _))
  have f1 := (hB.cell (p := ⟨p, 0, none⟩) hpl).trans hc
  have RN : RowIs ((w.alloc (.cells #[.int .u32 (n32 n)] 22)).alloc (.cells (u8s (zeros 32)) 33)) w.heap.size #[.int .u32 (n32 n)] := (RowIs.new _ _ _).alloc _
  have RK : RowIs ((w.alloc (.cells #[.int .u32 (n32 n)] 22)).alloc (.cells (u8s (zeros 32)) 33)) (w.heap.size + 1) (u8s (zeros 32)) := RowIs.new' (by simp)
  have cc := index_any w.heap.size base _ ts hok n _ (h2.step hB) (by rw [HM.out] at hl; exact hl) (pcell RN)
  have CC := Lib.hid cc
  replace h1 := h1.step hB
  replace h2 := h2.step hB
  clear cc RN hc
  go_enter Tryd.func48, Tryd.ntmps48
  go_wp2_with fail
  refine CC.out.mono ?_
  rintro e w1 ⟨hcase, hb1⟩
  replace h1 := h1.step hb1
  replace h2 := h2.step hb1
  replace RK := RK.step hb1
  replace hB := hB.trans (hb1.mono hB.size)
  have c1 := pcell h1
  clear f1 CC hb1
  rcases hcase with ⟨i, hi, rfl, hin, hall⟩ | ⟨rfl, hall⟩
  · obtain ⟨-, g, o, rfl, hg, hel⟩ := h2.elem hok hi
    have hh := nthT_ok hok hi
    obtain ⟨hd0, hhd⟩ : ∃ x, x = (nthT ts i).1 := ⟨_, rfl⟩
    obtain ⟨y, hy⟩ : ∃ x, x = (nthT ts i).2 := ⟨_, rfl⟩
    rw [← hhd, ← hy] at hel
    rw [← hhd] at hh
    have HH := Lib.hid hhd
    have HIN := Lib.hid hin; have HALL := Lib.hid hall
    have hL := thead_at hel hh
    have hi0 : ¬ ((i : Int) < 0) := by omega
    have hi1 : (i : Int) < m := by rw [HM.out]; omega
    have hi2 : (0 : Int) ≤ (i : Int) := by omega
    have hr1 := RK.has; have hr2 := RK.row; have hr3 := RK.lt
    clear hhd hy hel hin hall
    go_wp2_with fail
    refine bodyPost_rowTmpT 4 5 _ (w.heap.size + 1) 32 rfl rfl (by omega) (by kernel_rfl) (by kernel_rfl) ?_ rfl ?_
    · go_simp
    · go_simp
      exact ⟨.inl ⟨i, hi, by rw [HH.out], HIN.out, HALL.out⟩, below_setRow hB (by omega) _⟩
  · have HALL := Lib.hid hall
    have hr1 := RK.has; have hr2 := RK.row; have hr3 := RK.lt
    clear hall
    go_wp2_with fail
    refine bodyPost_rowTmpT 4 5 _ (w.heap.size + 1) 32 rfl rfl (by omega) (by kernel_rfl) (by kernel_rfl) ?_ rfl ?_
    · go_simp
    · go_simp
      exact ⟨.inr ⟨rfl, HALL.out⟩, below_setRow hB (by omega) _⟩
end
section
open Go.RowKit
def forgT (n : UInt32) : List Tr → List Tr
  | [] => []
  | [t] => [t]
  | t :: u :: r => if t.2.toNat < n.toNat then forgT n (u :: r) else t :: u :: r
theorem OwnT.tail {w : World} {base g o n c : Nat} {t u : Tr} {r : List Tr} (h : OwnT w base (.slice (some ⟨g, o, none⟩) n c) (t :: u :: r)) (hok : OkT (t :: u :: r)) : n ≤ c ∧ OwnT w base (.slice (some ⟨g, o + 33, none⟩) (n - 1) (c - 1)) (u :: r) := by
  rcases h with ⟨h1, _⟩ | ⟨g', o', c', cur, hv, hg, hh, hnc, hcm, hcs, htk⟩
  · cases h1
  · injection hv with e1 e2 e3
    injection e1 with e1
    injection e1 with e4 e5 e6
    subst e4; subst e5; subst e3
    simp only [List.length_cons] at hnc e2 htk
    refine ⟨by omega, .inr ⟨g, o + 33, c - 1, cur, by rw [e2]; rfl, hg, hh, by simp only [List.length_cons]; omega, by omega, by rw [hcs]; have : c * 33 = (c - 1) * 33 + 33 := (by rw [← Nat.succ_mul]; congr 1; omega); omega, ?_⟩⟩
    have hft : flatT (t :: u :: r) = trL t.1 t.2 ++ flatT (u :: r) := by simp [flatT]
    have hl := trL_length t.1 (hok t (by simp)) t.2
    have hR : (trL t.1 t.2 ++ flatT (u :: r)).drop 33 = flatT (u :: r) := by rw [← hl, List.drop_left]
    rw [hft] at htk
    have h2 := congrArg (List.drop 33) htk
    rw [hR, List.drop_take, List.drop_drop] at h2
    rw [← h2]
    simp only [List.length_cons]
    congr 1
    omega
def ForgRes (p base : Nat) (ts : List Tr) (w : World) (e : Ending) (w' : World) : Prop := e = .returned (.tuple #[]) ∧ PastAt w' p base ts ∧ OkT ts ∧ Upd p w w'
set_option maxRecDepth 100000 in
set_option maxHeartbeats 1600000 in
theorem forget_any (p base : Nat) (hpb : p < base) (ts : List Tr) (hok : OkT ts) (n : UInt32) (w : World) (hp : PastAt w p base ts) (hbase : base ≤ w.heap.size) (hl : ts.length ≤ 1000) :
    Calls Tryd.prog 61 #[.pointer (some ⟨p, 0, none⟩), .int .u32 (n32 n)] w (ForgRes p base (forgT n ts) w) := by
  go_enter Tryd.func61, Tryd.ntmps61
  go_wp2_with fail
  go_loopg [] ts.length (fun m wr => ∃ us : List Tr, us.length = m ∧ m ≤ 1000 ∧ PastAt wr p base us ∧ OkT us ∧ forgT n us = forgT n ts ∧ Upd p w wr)
  case atStart => exact ⟨ts, rfl, hl, hp, hok, rfl, Upd.refl p w⟩
  case round =>
    clear hp hok
    obtain ⟨us, hus, hm, ⟨v, h1, h2⟩, hok, hfo, hU⟩ := hrel
    have HF := Lib.hid hfo
    have HU := Lib.hid hus
    obtain ⟨A, c, rfl⟩ := h2.slice
    obtain ⟨q, hq⟩ : ∃ q, q = us.length := ⟨_, rfl⟩
    have HQ := Lib.hid hq
    rw [← hq] at h1 h2
    have hc := pcell h1
    have hf := RowIs.fz h1 0
    have hq6 : q ≤ 1000 := by omega
    clear hfo hus hq
    by_cases h1q : 1 < q
    · have i1 : (1 : Int) < q := by omega
      obtain ⟨t, u, r, rfl⟩ : ∃ t u r, us = t :: u :: r := by
        match us, HQ.out with
        | [], e => simp at e; omega
        | [a], e => simp at e; omega
        | a :: b :: r, _ => exact ⟨a, b, r, rfl⟩
      obtain ⟨-, g, o, rfl, hg, hel⟩ := h2.elem hok (i := 0) (by simp)
      have hh0 := nthT_ok hok (i := 0) (by simp)
      rw [show nthT (t :: u :: r) 0 = t by rw [nthT_def]; rfl] at hel hh0
      have hnum := tr_num hel hh0
      obtain ⟨hqc, htl⟩ := h2.tail hok
      obtain ⟨y, hy⟩ : ∃ y, y = t.2 := ⟨_, rfl⟩
      rw [← hy] at hnum
      rw [show o + 0 * 33 + 32 = o + 32 by omega] at hnum
      have HY := Lib.hid hy
      have hc1 : ¬ c = 1 := by omega
      have hc1' : ¬ (1 : Int) = c := by omega
      have hq0 : (0 : Int) < q := by omega
      have hq1 : (1 : Int) ≤ q := by omega
      clear hy hel
      by_cases hlt : y.toNat < n.toNat
      · have i2 : (n32 y : Int) < n32 n := by rw [n32_def, n32_def]; omega
        have HLT := Lib.hid hlt
        clear hlt
        go_wp2_with fail
        go_roundg (gk - 1)
        case measure => have := HU.out; simp only [List.length_cons] at this; omega
        case rel =>
          refine ⟨u :: r, by have := HU.out; simp only [List.length_cons] at this ⊢; omega, by omega, ⟨_, by simpa using h1.put 0 (.slice (some ⟨g, o + 33, none⟩) (q - 1) (c - 1)), htl.keep fun k hk _ => Below.heap_setCell _ _ _ _ (by simp; omega)⟩, fun x hx => hok x (by simp only [List.mem_cons] at hx ⊢; exact .inr hx), ?_, ?_⟩
          · rw [← HF.out, forgT, if_pos (by rw [← HY.out]; exact HLT.out)]
          · exact hU.put 0 _
      · have i2 : ¬ (n32 y : Int) < n32 n := by rw [n32_def, n32_def]; omega
        have HLT := Lib.hid hlt
        clear hlt
        go_wp2_with fail
        refine bodyPost_ret (results_none rfl _ _ _) rfl ?_
        refine ⟨rfl, ?_, ?_, hU⟩
        · rw [← HF.out, forgT, if_neg (by rw [← HY.out]; exact HLT.out)]; exact ⟨_, h1, h2⟩
        · rw [← HF.out, forgT, if_neg (by rw [← HY.out]; exact HLT.out)]; exact hok
    · have i1 : ¬ (1 : Int) < q := by omega
      have hus : forgT n us = us := by
        match us, HQ.out with
        | [], _ => rfl
        | [a], _ => rfl
        | a :: b :: r, e => simp at e; omega
      go_wp2_with fail
      refine bodyPost_ret (results_none rfl _ _ _) rfl ?_
      refine ⟨rfl, ?_, ?_, hU⟩
      · rw [← HF.out, hus]; exact ⟨_, h1, h2⟩
      · rw [← HF.out, hus]; exact hok
set_option maxRecDepth 100000 in
theorem first_any' (p base : Nat) (ts : List Tr) (hok : OkT ts) (w : World) (hp : PastAt w p base ts) (h0 : 0 < ts.length) :
    Calls Tryd.prog 64 #[.pointer (some ⟨p, 0, none⟩)] w fun e w' => e = .returned (.int .u32 (n32 (nthT ts 0).2)) ∧ w' = w := by
  obtain ⟨v, h1, h2⟩ := hp
  obtain ⟨A, c, rfl⟩ := h2.slice
  obtain ⟨-, g, o, rfl, hg, hel⟩ := h2.elem hok h0
  have hnum := tr_num hel (nthT_ok hok h0)
  rw [show o + 0 * 33 + 32 = o + 32 by omega] at hnum
  obtain ⟨y, hy⟩ : ∃ y, y = (nthT ts 0).2 := ⟨_, rfl⟩
  rw [← hy] at hnum ⊢
  obtain ⟨q, hq⟩ : ∃ q, q = ts.length := ⟨_, rfl⟩
  rw [← hq] at h1 h0
  have hc := pcell h1
  have i0 : ((q : Int) == 0) = false := by simp; omega
  have i1 : (0 : Int) < q := by omega
  clear hy hq hel h2
  go_enter Tryd.func64, Tryd.ntmps64
  go_wp2_with fail
  go_ret
  exact ⟨rfl, rfl⟩
end
section
open Go.RowKit
theorem key_self (h : List UInt8) (hh : h.length = 32) (w : World) : (Op.equalIn 9999 33 (.agg (u8s h)) (.agg (u8s h))).run Tryd.prog w = .ok true w := by
  obtain ⟨i, hi⟩ := Option.isSome_iff_exists.1 (show (Tryd.prog.info? 5).isSome = true by kernel_rfl)
  rw [run_equalIn_array w 9998 (u8s h) (u8s h) Tryd.underlying33 hi, show Tryd.prog.cellsOf 5 = 1 by kernel_rfl, run_eqItems8 Tryd.underlying5 9997 h h w _ (fun j hj => by rw [List.mem_range] at hj; omega)]
  exact congrArg (fun b => Result.ok b w) (List.all_eq_true.2 fun i _ => by simp)
theorem part_head (h : List UInt8) (hh : h.length = 32) (n : UInt32) (w : World) : (part 33 (trC h n) 0).run Tryd.prog w = .ok (.agg (u8s h)) w := by
  have e : (trC h n).extract 0 32 = u8s h := by
    rw [trC_def, trL, u8s_toArray]
    apply Array.ext'
    simp [u8v_length, hh]
  simp [part, Tryd.isAgg33, Tryd.sizeOf33, e]
theorem part_num (h : List UInt8) (hh : h.length = 32) (n : UInt32) (w : World) : (part 22 (trC h n) 32).run Tryd.prog w = .ok (.int .u32 (n32 n)) w := by
  have e : (trC h n)[32]? = some (.int .u32 (n32 n)) := by
    rw [trC_def, trL, List.getElem?_toArray, List.getElem?_append_right (by rw [u8v_length]; omega), u8v_length, hh]; rfl
  exact run_part_int Tryd.underlying22 w _ 32 _ e
theorem trEq (h : List UInt8) (hh : h.length = 32) (n : UInt32) (w : World) : (Op.equalIn 10000 64 (.agg (trC h n)) (.agg (trC h n))).run Tryd.prog w = .ok true w := by
  have hS : Tryd.prog.underlying 64 = some (.struct (Tryd.prog.fieldsOf 64)) := by kernel_rfl
  rw [show (10000 : Nat) = 9999 + 1 from rfl, run_equalIn_struct w 9999 64 _ _ hS (by kernel_rfl)]
  simp only [Program.fieldsOf, Tryd.underlying64]
  simp [Op.eqFields, part_head h hh, part_num h hh, key_self h hh, run_equalIn_int _ 9998 _ _ _ _ _ Tryd.underlying22]
theorem pastBuild (w : World) : (Instr.build 75 #[]).run Tryd.prog w = .ok (.agg #[.slice none 0 0]) w := run_build w _ _ _ (by kernel_rfl)
end
end Go.Proofs.YtopmdbmnlflpgaaDoor
