/- Bytes appended to an own slice, the source an opaque value. No program. -/
import Derived.Test.YtopmdbmnlflpgaaDoorApp
import Derived.Test.YtopmdbmnlflpgaaDoorBs
namespace Go.Proofs.YtopmdbmnlflpgaaDoor
open Go.RowKit
theorem Bs.rd {w : World} {A : Option Addr} {n c : Nat} {l : List UInt8} (h : Bs w (.slice A n c) l) : n = l.length ∧ l.length ≤ c ∧ Rd8 w w.heap.size A l := by
  obtain ⟨A', c', h1, h2, h3, h4⟩ := h
  injection h1 with e1 e2 e3
  subst e1; subst e2; subst e3
  exact ⟨rfl, h2, h4⟩
theorem Own8.bs {T : TypeId} {w : World} {base : Nat} {v : Value} {l : List UInt8} (h : Own8 T w base v l) (hm : l.length ≤ 140737488351232) : Bs w v l := by
  obtain ⟨A, c, rfl⟩ := h.slice
  exact Bs.of h.len.2 hm h.rd
/-- an empty slice that is none -/
theorem Own8.empty {T : TypeId} (w : World) {g base : Nat} (hg : g = w.heap.size) (hb : base ≤ w.heap.size) : Own8 T (w.alloc (.cells #[] T)) base (.slice (some ⟨g, 0, none⟩) 0 0) [] := by
  subst hg
  have := Own8.new T w base [] hb (by simp)
  simpa [u8s_def] using this
theorem Own8.lit1 {T : TypeId} (w : World) {g base : Nat} (b : UInt8) (hg : g = w.heap.size) (hb : base ≤ w.heap.size) : Own8 T (w.alloc (.cells #[.int .u8 (n8 b)] T)) base (.slice (some ⟨g, 0, none⟩) 1 1) [b] := by
  subst hg
  have := Own8.new T w base [b] hb (by simp [maxLen])
  simpa [u8s_def] using this
/-- an own slice stays one while what is below its base turns -/
theorem Own8.keep {T : TypeId} {w w' : World} {base : Nat} {v : Value} {l : List UInt8} (h : Own8 T w base v l) (hb : ∀ k, base ≤ k → k < w.heap.size → w'.heap[k]? = w.heap[k]?) : Own8 T w' base v l := by
  obtain ⟨h1, h2⟩ := h
  refine ⟨h1, ?_⟩
  rcases h2 with h2 | ⟨g, cap, cur, hv, hg, hh, r⟩
  · exact .inl h2
  · refine .inr ⟨g, cap, cur, hv, hg, ?_, r⟩
    have hlt := (Array.getElem?_eq_some_iff.1 hh).1
    rw [hb g hg hlt]; exact hh
theorem Own8.step {T : TypeId} {w w' : World} {base : Nat} {v : Value} {l : List UInt8} (h : Own8 T w base v l) (hb : Below w.heap.size w w') : Own8 T w' base v l := h.below hb (Nat.le_refl _)
theorem wpList_appendBs {P : Program} {w : World} {t e : TypeId} {ops : Array Oper} {rest : List Oper} {o : Oper} {a : Act} {Q : Exit → Act → World → Prop} (ht : P.underlying t = some (.slice e)) (hi : (P.info? e).map (fun i => (i.zero, i.size, i.bytes)) = some (some (.int .u8 0), 1, 1))
    (hgd : o.guard = none) (s x : Operand) (ho : o.op = .call { callee := .builtin .append, args := #[s, x], argTypes := #[t, t] })
    (base : Nat) {v vx : Value} {l bs L : List UInt8} {N : Nat} (hs : a.eval s = v) (hown : Own8 e w base v l) (hx : a.eval x = vx) (hb : Bs w vx bs) (hL : l ++ bs = L) (hN : L.length = N)
    (hlen : N ≤ 140737488355328) (hbase : base ≤ w.heap.size)
    (h : ∀ A' c' w', Own8 e w' base (.slice A' N c') L → Below base w w' → wpList P ops Q rest (a.put o.dst (.slice A' N c')) w') : wpList P ops Q (o :: rest) a w := by
  obtain ⟨A, c, rfl, h1, h2, h3⟩ := hb
  subst hL; subst hN
  exact wpList_append8s ht hi hgd s x ho base _ v l hs hown A bs.length c bs hx rfl h3 (by rwa [List.length_append] at hlen) hbase fun A' c' w' g1 g2 => h A' c' w' g1 (below_append (Below.refl _ _) hown g2 (Nat.le_refl _) hbase)
/-- bytes appended to an own slice: at the operation -/
theorem wp_appendBs {P : Program} {w : World} {t e : TypeId} {o : Oper} {a : Act} {K : Act → World → Prop} {Q : Exit → Act → World → Prop} (ht : P.underlying t = some (.slice e)) (hi : (P.info? e).map (fun i => (i.zero, i.size, i.bytes)) = some (some (.int .u8 0), 1, 1))
    (s x : Operand) (ho : o.op = .call { callee := .builtin .append, args := #[s, x], argTypes := #[t, t] })
    (base : Nat) {v vx : Value} {l bs L : List UInt8} {N : Nat} (hs : a.eval s = v) (hown : Own8 e w base v l) (hx : a.eval x = vx) (hb : Bs w vx bs) (hL : l ++ bs = L) (hN : L.length = N)
    (hlen : N ≤ 140737488355328) (hbase : base ≤ w.heap.size)
    (h : ∀ A' c' w', Own8 e w' base (.slice A' N c') L → Below base w w' → K (a.put o.dst (.slice A' N c')) w') : o.wp P a w K Q := by
  obtain ⟨A, c, rfl, h1, h2, h3⟩ := hb
  subst hL; subst hN
  obtain ⟨v', w', hrun, g2, g3⟩ := run_append8s (w := w) ht hi o.type base _ v l hown A c bs h3 (by rwa [List.length_append] at hlen) hbase
  obtain ⟨A', c', rfl⟩ := g2.slice
  unfold Oper.wp execOp
  simp only [ho, resolve, invoke, builtin, Sem.run_bind, Sem.run_pure, Result.andThen_ok, List.map_toArray, List.map_cons, List.map_nil, hs, hx, hrun]
  exact h A' c' w' g2 (below_append (Below.refl _ _) hown g3 (Nat.le_refl _) hbase)
/-- an operation under a guard that holds -/
theorem wpList_wanted {P : Program} {ops : Array Oper} {Q : Exit → Act → World → Prop} {a : Act} {w : World} {rest : List Oper} {o : Oper} (hw : Region.wanted o (yielded ops a.tmps) = true)
    (h : ∀ K : Act → World → Prop, (∀ a w, wpList P ops Q rest a w → K a w) → o.wp P a w K Q) : wpList P ops Q (o :: rest) a w := by
  unfold wpList
  rw [if_pos hw]
  exact .inl (h _ fun _ _ h => h)
end Go.Proofs.YtopmdbmnlflpgaaDoor
