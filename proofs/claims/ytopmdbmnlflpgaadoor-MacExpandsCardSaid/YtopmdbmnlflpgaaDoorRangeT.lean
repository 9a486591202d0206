/- A drawn region within a round, its last operation free of the condition. No program. -/
import Derived.Test.YtopmdbmnlflpgaaDoorRange
import Derived.Test.YtopmdbmnlflpgaaDoorLexT
import Derived.Test.YtopmdbmnlflpgaaDoorAppBs
namespace Go.Proofs.YtopmdbmnlflpgaaDoor
open Go.RowKit
theorem wpIn_region_lexT {F : Fence} {n : Nat} {P : Program} {Q : Exit → Act → World → Prop} {id : Nat} {a : Act} {w : World} {l : List Oper} (ho : F = Fence.wide ∨ ∃ l, F = Fence.wide.inRound l) (ex fz : List Nat) (S : World → Prop) (hm : P.follows .mixedOrders = true)
    (hB : lexOkT ex fz l.toArray = true) (hd : noDefer l.toArray = true) (hS : S w.drew) (h : S w.drew → wpLexT P l.toArray ex fz S (Q .normal) 0 l a w.drew) : (Code.region id l.toArray true).wpIn F n P Q a w :=
  wpIn_mono (wpIn_region_any (Q := Exit.then (Q .normal) NoOut) hm (wpAnyIn_of ho hd noOut_lets _ _ _ _ (by simpa using wpAny_lexT hB hS (h hS)))) (fun e a w h => noOut_to h)
/-- bytes appended to an own slice: what is no cells stays -/
theorem wp_appendBsK {P : Program} {w : World} {t e : TypeId} {o : Oper} {a : Act} {K : Act → World → Prop} {Q : Exit → Act → World → Prop} (ht : P.underlying t = some (.slice e)) (hi : (P.info? e).map (fun i => (i.zero, i.size, i.bytes)) = some (some (.int .u8 0), 1, 1))
    (s x : Operand) (ho : o.op = .call { callee := .builtin .append, args := #[s, x], argTypes := #[t, t] })
    (base : Nat) {v vx : Value} {l bs L : List UInt8} {N : Nat} (hs : a.eval s = v) (hown : Own8 e w base v l) (hx : a.eval x = vx) (hb : Bs w vx bs) (hL : l ++ bs = L) (hN : L.length = N)
    (hlen : N ≤ 140737488355328) (hbase : base ≤ w.heap.size)
    (h : ∀ A' c' w', Own8 e w' base (.slice A' N c') L → Below base w w' → KeepsOthers w w' → K (a.put o.dst (.slice A' N c')) w') : o.wp P a w K Q := by
  obtain ⟨A, c, rfl, h1, h2, h3⟩ := hb
  subst hL; subst hN
  obtain ⟨v', w', hrun, g2, g3⟩ := run_append8s (w := w) ht hi o.type base _ v l hown A c bs h3 (by rwa [List.length_append] at hlen) hbase
  obtain ⟨A', c', rfl⟩ := g2.slice
  unfold Oper.wp execOp
  simp only [ho, resolve, invoke, builtin, Sem.run_bind, Sem.run_pure, Result.andThen_ok, List.map_toArray, List.map_cons, List.map_nil, hs, hx, hrun]
  refine h A' c' w' g2 (below_append (Below.refl _ _) hown g3 (Nat.le_refl _) hbase) (KeepsOthers.of_grownBy g3 fun j ob hj hob => ?_)
  rcases hown.2 with ⟨hn, _⟩ | ⟨g, cap, cur, hv, _, hh, _⟩
  · rw [hn] at hj; simp [Value.ownBlock] at hj
  · rw [hv] at hj
    simp [Value.ownBlock] at hj
    subst hj
    rw [hh] at hob
    cases hob; rfl
end Go.Proofs.YtopmdbmnlflpgaaDoor
