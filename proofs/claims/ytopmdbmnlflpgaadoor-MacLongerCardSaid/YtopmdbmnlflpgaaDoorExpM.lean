/- mac.Expand: what a round keeps. -/
import Derived.Test.YtopmdbmnlflpgaaDoorExp
namespace Go.Proofs.YtopmdbmnlflpgaaDoor
open Go.RowKit Go.Shelf
/-- bytes appended to an own slice: what is no cells stays, and what is not its row -/
theorem wp_appendBsG {P : Program} {w : World} {t e : TypeId} {o : Oper} {a : Act} {K : Act → World → Prop} {Q : Exit → Act → World → Prop} (ht : P.underlying t = some (.slice e)) (hi : (P.info? e).map (fun i => (i.zero, i.size, i.bytes)) = some (some (.int .u8 0), 1, 1))
    (s x : Operand) (ho : o.op = .call { callee := .builtin .append, args := #[s, x], argTypes := #[t, t] })
    (base : Nat) {v vx : Value} {l bs L : List UInt8} {N : Nat} (hs : a.eval s = v) (hown : Own8 e w base v l) (hx : a.eval x = vx) (hb : Bs w vx bs) (hL : l ++ bs = L) (hN : L.length = N)
    (hlen : N ≤ 140737488355328) (hbase : base ≤ w.heap.size)
    (h : ∀ A' c' w', Own8 e w' base (.slice A' N c') L → Below base w w' → KeepsOthers w w' → w.grownBy w' v.ownBlock → K (a.put o.dst (.slice A' N c')) w') : o.wp P a w K Q := by
  obtain ⟨A, c, rfl, h1, h2, h3⟩ := hb
  subst hL; subst hN
  obtain ⟨v', w', hrun, g2, g3⟩ := run_append8s (w := w) ht hi o.type base _ v l hown A c bs h3 (by rwa [List.length_append] at hlen) hbase
  obtain ⟨A', c', rfl⟩ := g2.slice
  unfold Oper.wp execOp
  simp only [ho, resolve, invoke, builtin, Sem.run_bind, Sem.run_pure, Result.andThen_ok, List.map_toArray, List.map_cons, List.map_nil, hs, hx, hrun]
  refine h A' c' w' g2 (below_append (Below.refl _ _) hown g3 (Nat.le_refl _) hbase) (KeepsOthers.of_grownBy g3 fun j ob hj hob => ?_) g3
  rcases hown.2 with ⟨hn, _⟩ | ⟨g, cap, cur, hv, _, hh, _⟩
  · rw [hn] at hj; simp [Value.ownBlock] at hj
  · rw [hv] at hj
    simp [Value.ownBlock] at hj
    subst hj
    rw [hh] at hob
    cases hob; rfl
structure EInv (key info : List UInt8) (n g B0 nb ob : Nat) (M : Int) (w : World) (k s : Nat) (W : World) : Prop where
  upd : Upd g w W
  met : MetB W g M
  num : RowIs W nb #[.int .i64 n]
  sz : B0 ≤ s
  big : k = 0 ∨ 32 * k < n
  out : ∃ v, RowIs W ob #[v] ∧ Own8 5 W B0 v (outK key info k) ∧ ∀ b, v.ownBlock = some b → b < s
structure EFin (key info : List UInt8) (n g B0 nb ob : Nat) (M : Int) (w : World) (k : Nat) (W : World) : Prop where
  upd : Upd g w W
  met : MetB W g M
  num : RowIs W nb #[.int .i64 n]
  big : n ≤ 32 * k
  kb : k ≤ 255
  out : ∃ v, RowIs W ob #[v] ∧ Own8 5 W B0 v (outK key info k)
theorem MetB.ck {W W' : World} {g : Nat} {M : Int} (h : MetB W g M) (hk : Ck W W') : MetB W' g M := by
  obtain ⟨n, h0, h1, h2⟩ := h
  exact ⟨n, h0, h1, RowIs.ck h2 hk⟩
theorem Upd.turn {g B : Nat} {w W W' : World} (h : Upd g w W) (ht : Turn B W W') (hB : w.heap.size ≤ B) : Upd g w W' := by
  obtain ⟨row, hg, hr⟩ := ht
  refine ⟨hg.os.trans h.os, hg.tape.trans h.tape, hg.output.trans h.output, Nat.le_trans h.size hg.size, fun k hk hne => ?_⟩
  have hs := h.size
  rw [hg.block k (by omega) (fun e => by have := (hr k e.symm).1; omega)]
  exact h.block k hk hne
section
variable {key info : List UInt8} {n g B0 nb ob k s : Nat} {M : Int} {w W W' : World}
theorem EInv.turn (h : EInv key info n g B0 nb ob M w k s W) (hB : w.heap.size ≤ B0) (ht : Turn B0 W W') : EInv key info n g B0 nb ob M w k s W' := by
  obtain ⟨v, h1, h2, h3⟩ := h.out
  exact ⟨h.upd.turn ht hB, h.met.ck ht.ck, h.num.ck ht.ck, h.sz, h.big, v, h1.ck ht.ck, h2.ck ht.ck, h3⟩
theorem EInv.st (h : EInv key info n g B0 nb ob M w k s W) (h1 : nb ≠ g) (h2 : ob ≠ g) (hB : g < B0) (hs : MSt g M W W') : EInv key info n g B0 nb ob M w k s W' := by
  obtain ⟨v, h3, h4, h5⟩ := h.out
  exact ⟨h.upd.trans hs.upd, hs.met, h.num.upd hs.upd h1, h.sz, h.big, v, h3.upd hs.upd h2, h4.keep fun j hj hl => hs.upd.block j hl (by omega), h5⟩
theorem EFin.turn (h : EFin key info n g B0 nb ob M w k W) (hB : w.heap.size ≤ B0) (ht : Turn B0 W W') : EFin key info n g B0 nb ob M w k W' := by
  obtain ⟨v, h1, h2⟩ := h.out
  exact ⟨h.upd.turn ht hB, h.met.ck ht.ck, h.num.ck ht.ck, h.big, h.kb, v, h1.ck ht.ck, h2.ck ht.ck⟩
theorem EFin.st (h : EFin key info n g B0 nb ob M w k W) (h1 : nb ≠ g) (h2 : ob ≠ g) (hB : g < B0) (hs : MSt g M W W') : EFin key info n g B0 nb ob M w k W' := by
  obtain ⟨v, h3, h4⟩ := h.out
  exact ⟨h.upd.trans hs.upd, hs.met, h.num.upd hs.upd h1, h.big, h.kb, v, h3.upd hs.upd h2, h4.keep fun j hj hl => hs.upd.block j hl (by omega)⟩
theorem EInv.step (h : EInv key info n g B0 nb ob M w k s W) (hb : Below W.heap.size W W') : EInv key info n g B0 nb ob M w k s W' := by
  obtain ⟨v, h3, h4, h5⟩ := h.out
  exact ⟨h.upd.then hb, h.met.step hb, h.num.step hb, h.sz, h.big, v, h3.step hb, h4.step hb, h5⟩
end
end Go.Proofs.YtopmdbmnlflpgaaDoor
