/- A range over a function whose iterator takes steps of a kind of its own between two rounds (a captured variable that turns, a meter that counts); and a drawn region within a round, walked as elsewhere. No program. -/
import Derived.RangeFuncNested
import Derived.RangeFuncBound
import Derived.RangeFuncCalls
import Derived.RangeFuncLeaves
import Derived.Shelf.Abstract
import Derived.Shelf.RegionOpen
import Derived.WalkKit
import Derived.OwnWalkIn
import Derived.TacticsInMore
import Derived.LoopNIn
import Derived.LoopIn
import Derived.Test.YtifnpphkplogaaaLexS
import Derived.Test.YtifnpphkplogaaaBs
namespace Go.Proofs.Ytifnpphkplogaaa
open Go.RowKit
section
variable {F : Fence} {n : Nat} {P : Program}
/-- an iterator's contract: round number k is handed Arg k; the iterator's own steps are of the kind St; a round that goes on keeps Kp -/
def SeqBy (F : Fence) (n : Nat) (P : Program) (g : Nat) (lb : Array Value) (Arg : Nat → Array Value → World → Prop) (St : World → World → Prop) (Kp : Nat → World → World → Prop) (Fin : Nat → Prop) (Inf : Prop) (N : Nat) (w : World) : Prop :=
  ∀ (l : Nat) (J : Nat → Nat → World → Prop) (Jx : Nat → World → Prop) (W : World), Below w.heap.size w W →
    (∀ k s A B, J k s A → St A B → J k s B) → (∀ s A B, Jx s A → St A B → Jx s B) →
    (∀ k s vs W1, k < N → J k s W1 → s ≤ W1.heap.size → Arg k vs W1 → YieldAt F (n - 1) P l vs W1 fun e W' =>
      (e = .returned (.bool true) ∧ J (k + 1) W'.heap.size W' ∧ Kp s W1 W') ∨ (e = .returned (.bool false) ∧ Jx (k + 1) W')) →
    (Inf → ∀ s W, J N s W → False) → J 0 W.heap.size W →
    CallsIn F n P g (#[.func (.yield l) #[] #[]] ++ lb) W fun e W' => (∃ v, e = .returned v) ∧ ((∃ k s, Fin k ∧ J k s W') ∨ (∃ k, Jx k W'))
/-- a world that goes on: a block that is no cells, from B on, has turned; blocks have come -/
def Turn (B : Nat) (W W' : World) : Prop := ∃ row, W.grownBy W' row ∧ ∀ r, row = some r → B ≤ r ∧ ∃ o : Obj, W.heap[r]? = some o ∧ o.isCells = false
/-- THE LAW -/
theorem wpIn_rangeBy {g : Operand} {ps : Array Tmp} {assign body : Code} {Q : Exit → Act → World → Prop} {a : Act} {w : World}
    (hro : F.round = none) (h1 : 1 ≤ n) {gf : Nat} {lb : Array Value} (hg : a.eval g = .func (.func gf) #[] lb) (hFg : F.fn gf) (eg : ∀ args w, (callFunc gf args).run P w = .ok (.enter gf args) w)
    {Arg : Nat → Array Value → World → Prop} {St : World → World → Prop} {Kp : Nat → World → World → Prop} {Fin : Nat → Prop} {Inf : Prop} {N : Nat} (hseq : SeqBy F (n - 1) P gf lb Arg St Kp Fin Inf N w)
    (hSt : ∀ A B, St A B → KeepsFrom w.heap.size A B)
    (hKt : ∀ {s : Nat} {A B C : World}, Kp s A B → Kp s B C → Kp s A C) (hKb : ∀ (s : Nat) (W : World) (l : Nat) (o o' : Obj), w.heap.size ≤ l → W.heap[l]? = some o → o.isCells = false → o.isWalk = false → Kp s W (W.putObj l o'))
    (hps : ∀ k vs W, Arg k vs W → vs.size = ps.size)
    (I : Nat → Nat → World → Prop) (Ix : Code → Nat → World → Prop) (hI : ∀ k, OwnFrom w.heap.size (I k)) (hIx : ∀ c, OwnFrom w.heap.size (Ix c))
    (hIS : ∀ k s A B, I k s A → St A B → I k s B) (hIxS : ∀ c s A B, Ix c s A → St A B → Ix c s B) (hinf : Inf → ∀ s W, I N s W → False) (h0 : ∀ W : World, Below w.heap.size w W → I 0 W.heap.size W)
    (hround : ∀ (l k s : Nat) (vs : Array Value) (W : World), k < N → I k s W → s ≤ W.heap.size → Arg k vs W →
      assign.wpIn (F.inRound l) (n - 1 - 1) P (Exit.then (fun a1 W1 => KeepsFrom w.heap.size W W1 ∧ Kp s W W1 ∧ ∀ W2, Turn w.heap.size W1 W2 →
          body.wpIn (F.inRound l) (n - 1 - 1) P (ownPostG w.heap.size (Kp s) (fun (_ : List Unit) W' => I (k + 1) W'.heap.size W') (fun c _ => Ix c (k + 1)) [] W2) a1 W2) (fun _ _ _ => False))
        { tmps := (ps.zip vs).foldl (fun t (p, v) => t.setIfInBounds p v) a.tmps, defers := [] } W)
    (hdone : ∀ (D k s : Nat) (W : World), w.heap.size ≤ D → Fin k → I k s W → W.heap[D]? = some (.deferred (some [])) → Q .normal { a with defers := { target := .collected D, args := #[] } :: a.defers } W)
    (hstop : ∀ (D : Nat) (c : Code) (k : Nat) (W : World), w.heap.size ≤ D → Ix c k W → W.heap[D]? = some (.deferred (some [])) → c.wpIn F n P Q { a with defers := { target := .collected D, args := #[] } :: a.defers } W) :
    (Code.rangeFunc g ps assign body).wpIn F n P Q a w := by
  refine wpIn_rangeFunc fun fn hfn => ?_
  rw [hro]
  obtain ⟨rc, hrc⟩ : ∃ rc : LoopState → Option Code → Loop, rc = fun st pe => { state := st, pending := pe, fn, tmps := a.tmps, params := ps, assign, body, defers := w.heap.size } := ⟨_, rfl⟩
  -- the two blocks of the statement's own: where the rounds' deferred calls go, and the loop's record
  obtain ⟨d, hd⟩ : ∃ d, d = w.heap.size := ⟨_, rfl⟩
  obtain ⟨r, hr⟩ : ∃ r, r = w.heap.size + 1 := ⟨_, rfl⟩
  obtain ⟨W1, hW1⟩ : ∃ W1, (w.alloc (.deferred (some []))).alloc (.loop (rc .ready none)) = W1 := ⟨_, rfl⟩
  have hbl : Below w.heap.size w W1 := by rw [← hW1]; exact ((Below.refl _ w).alloc (Nat.le_refl _) _).alloc (by simp) _
  have hL1 : W1.heap[r]? = some (.loop (rc .ready none)) := by
    rw [← hW1, hr]
    have := World.alloc_heap_new (w.alloc (.deferred (some []))) (.loop (rc .ready none))
    rwa [World.size_alloc] at this
  have hD1 : W1.heap[d]? = some (.deferred (some [])) := by
    rw [← hW1, hd]
    exact (Below.heap_alloc _ _ _ (by simp)).trans (World.alloc_heap_new w _)
  refine ⟨r, [{ target := .collected d, args := #[] }], W1, { target := .fn (.func gf) lb, args := #[.func (.yield r) #[] #[]] }, W1, gf, #[.func (.yield r) #[] #[]] ++ lb, W1, ?_, ?_, ?_, ?_, fun _ => h1, ?_⟩
  · rw [← hW1, hrc, hr, hd]; exact run_enterLoop_outer _ _ _ _ _
  · simp only [resolve, hg]
    simp [go_sem]
  · intro f' hf'
    simp [Target.leads] at hf'
    subst hf'; exact hFg
  · simp [invoke, go_sem, eg]
  · have step : ∀ {A B : World} (c : Obj), St A B → ∀ j, w.heap.size ≤ j → A.heap[j]? = some c → c.isCells = false → B.heap[j]? = some c := fun c h j hj hc hcc => (hSt _ _ h).same j c hj hc hcc
    refine (hseq r (fun k s W => I k s W ∧ W.heap[r]? = some (.loop (rc .ready none)) ∧ W.heap[d]? = some (.deferred (some [])))
      (fun k W => ∃ c, Ix c k W ∧ W.heap[r]? = some (.loop (rc .done (some c))) ∧ W.heap[d]? = some (.deferred (some []))) W1 hbl
      (fun k s A B h hs => ⟨hIS k s A B h.1 hs, step _ hs r (by omega) h.2.1 rfl, step _ hs d (by omega) h.2.2 rfl⟩)
      (fun s A B h hs => by
        obtain ⟨c, h1, h2, h3⟩ := h
        exact ⟨c, hIxS c s A B h1 hs, step _ hs r (by omega) h2 rfl, step _ hs d (by omega) h3 rfl⟩) ?_ (fun h s W hs => hinf h s W hs.1) ⟨?_, hL1, hD1⟩).mono ?_
    · rintro k s vs W hlen ⟨hi, hl, hk⟩ hsW harg
      have hy := run_yield (P := P) (args := vs) hl (by rw [hrc]; exact hps k vs W harg)
      rw [hrc] at hy
      refine ⟨fn, _, assign, body, hy, roundIn_of_wpIn hfn (wpIn_mono (hround r k s vs W hlen hi hsW harg) fun e1 a' W2 h2 => ?_)⟩
      cases e1 with
      | ret => exact (h2 : False).elim
      | exit id => exact (h2 : False).elim
      | goto t => exact (h2 : False).elim
      | panic ch => exact (h2 : False).elim
      | outgrown => exact (h2 : False).elim
      | normal =>
      obtain ⟨hk2, hkp2, hbody⟩ := h2
      have hl2 := hk2.same r _ (by omega) hl rfl
      have hd2 := hk2.same d _ (by omega) hk rfl
      refine ⟨_, run_beginRound hl2 (by rw [hrc]), ?_⟩
      obtain ⟨W3, hW3⟩ : ∃ W3, W3 = W2.putObj r (.loop { rc .ready none with state := .busy }) := ⟨_, rfl⟩
      have hl3 : W3.heap[r]? = some (.loop { rc .ready none with state := .busy }) := by rw [hW3]; exact World.putObj_heap_same (Array.getElem?_eq_some_iff.1 hl2).1
      have hd3 : W3.heap[d]? = some (.deferred (some [])) := by rw [hW3]; exact (World.putObj_heap_other (by omega)).trans hd2
      have hp3 : Kp s W W3 := by rw [hW3]; exact hKt hkp2 (hKb _ _ _ _ _ (by omega) hl2 rfl rfl)
      have ht3 : Turn w.heap.size W2 W3 := ⟨some r, by rw [hW3]; exact grownBy_putObj' _ _ _, fun r' e' => by cases e'; exact ⟨by omega, _, hl2, rfl⟩⟩
      rw [← hW3]
      refine wpIn_mono (hbody W3 ht3) ?_
      intro e a4 W4 hp
      -- however the round is left: the record is written, the deferred calls' block stays
      have fin : ∀ jump : Option Code, KeepsFrom w.heap.size W3 W4 → ∃ W5, W5 = W4.putObj r (.loop (rc (if jump.isNone then .ready else .done) jump)) ∧
          (Instr.endRound r jump).run P W4 = .ok (.bool jump.isNone) W5 ∧ W4.heap[r]? = some (.loop { rc .ready none with state := .busy }) ∧
          W5.heap[r]? = some (.loop (rc (if jump.isNone then .ready else .done) jump)) ∧ W5.heap[d]? = some (.deferred (some [])) := fun jump h4 => by
        have hl4 := h4.same r _ (by omega) hl3 rfl
        have hd4 := h4.same d _ (by omega) hd3 rfl
        refine ⟨_, rfl, ?_, hl4, World.putObj_heap_same (Array.getElem?_eq_some_iff.1 hl4).1, (World.putObj_heap_other (by omega)).trans hd4⟩
        have := run_endRound (P := P) jump hl4
        rw [hrc] at this ⊢
        exact this
      have leave : ∀ c : Code, KeepsFrom w.heap.size W3 W4 → Ix c (k + 1) W4 → ∃ v W5, (Instr.endRound r (some c)).run P W4 = .ok v W5 ∧
          ((Ending.returned v = .returned (.bool true) ∧ (I (k + 1) W5.heap.size W5 ∧ W5.heap[r]? = some (.loop (rc .ready none)) ∧ W5.heap[d]? = some (.deferred (some []))) ∧ Kp s W W5) ∨
            (Ending.returned v = .returned (.bool false) ∧ ∃ c, Ix c (k + 1) W5 ∧ W5.heap[r]? = some (.loop (rc .done (some c))) ∧ W5.heap[d]? = some (.deferred (some [])))) := fun c h4 hi4 => by
        obtain ⟨W5, e5, hr5, hl4, hl5, hd5⟩ := fin (some c) h4
        refine ⟨_, W5, hr5, .inr ⟨rfl, c, ?_, hl5, hd5⟩⟩
        rw [e5]; exact (hIx c).putObj _ hi4 (by omega) hl4 rfl
      cases e with
      | normal =>
        obtain ⟨hk4, hkp4, hi4⟩ := hp
        obtain ⟨W5, e5, hr5, hl4, hl5, hd5⟩ := fin none hk4
        refine ⟨_, W5, hr5, .inl ⟨rfl, ⟨?_, hl5, hd5⟩, ?_⟩⟩
        · rw [e5, World.putObj_size]; exact (hI (k + 1)).putObj _ hi4 (by omega) hl4 rfl
        · rw [e5]; exact hKt (hKt hp3 hkp4) (hKb _ _ _ _ _ (by omega) hl4 rfl rfl)
      | ret => exact leave _ hp.1 hp.2
      | exit id => exact leave _ hp.1 hp.2
      | goto t => exact leave _ hp.1 hp.2
      | panic ch => exact hp.elim
      | outgrown => exact hp.elim
    · exact h0 W1 hbl
    · rintro e W2 ⟨⟨v, rfl⟩, (⟨k, s, hS, hi, hl, hk⟩ | ⟨k, c, hi, hl, hk⟩)⟩
      · refine ⟨none, _, by have := run_endLoop (P := P) hl (by rw [hrc]; simp); rw [hrc] at this; exact this, ?_⟩
        exact hdone d k s _ (by omega) hS ((hI k).putObj _ hi (by omega) hl rfl) ((World.putObj_heap_other (by omega)).trans hk)
      · refine ⟨some c, _, by have := run_endLoop (P := P) hl (by rw [hrc]; simp); rw [hrc] at this; exact this, ?_⟩
        exact hstop d c k _ (by omega) ((hIx c).putObj _ hi (by omega) hl rfl) ((World.putObj_heap_other (by omega)).trans hk)
end
/-! ### a drawn region under a wide fence, in a round or not -/
section
variable {F : Fence} {n : Nat} {P : Program} {ops : Array Oper} {Q : Exit → Act → World → Prop}
def noDefer (ops : Array Oper) : Bool := ops.all fun o => match o.op with
  | .defer _ => false
  | _ => true
theorem noDefer_at {i : Nat} {o : Oper} (h : noDefer ops = true) (ho : ops[i]? = some o) : ∀ c, o.op ≠ .defer c := by
  intro c hc
  obtain ⟨hi, rfl⟩ := Array.getElem?_eq_some_iff.1 ho
  have := Array.all_eq_true.1 h i hi
  rw [hc] at this
  cases this
theorem calls_wideIn {f : FuncId} {args : Array Value} {w : World} {R : Ending → World → Prop} (ho : F = Fence.wide ∨ ∃ l, F = Fence.wide.inRound l) (h : Calls P f args w R) : CallsIn F n P f args w R := by
  rcases ho with rfl | ⟨l, rfl⟩
  · exact callsIn_wide.2 h
  · exact (callsIn_wide.2 h).inRound l
theorem rows_wideIn {row : String} {args : Array Value} {w : World} {R : Value → World → Prop} (ho : F = Fence.wide ∨ ∃ l, F = Fence.wide.inRound l) (h : Rows P row args w R) : RowsIn F n P row args w R := by
  intro c cs _
  obtain ⟨v, w', hr, hs⟩ := h c cs
  refine ⟨v, w', hr, ?_⟩
  rcases ho with rfl | ⟨l, rfl⟩
  · exact stepsIn_wide.2 hs
  · exact stepsIn_wide.2 hs
theorem fn_wideIn (ho : F = Fence.wide ∨ ∃ l, F = Fence.wide.inRound l) (f : FuncId) : F.fn f := by
  rcases ho with rfl | ⟨l, rfl⟩ <;> exact trivial
theorem depth_wideIn (ho : F = Fence.wide ∨ ∃ l, F = Fence.wide.inRound l) : F.depth.isSome = true → 1 ≤ n := by
  rcases ho with rfl | ⟨l, rfl⟩ <;> (intro h; cases h)
theorem oper_wpIn {o : Oper} {a : Act} {w : World} {K : Act → World → Prop} (ho : F = Fence.wide ∨ ∃ l, F = Fence.wide.inRound l) (hd : ∀ c, o.op ≠ .defer c) (h : o.wp P a w K Q) : o.wpIn F n P a w K Q := by
  refine ⟨fun f _ => fn_wideIn ho f, ?_⟩
  rw [Oper.semAt_plain F _ _ hd]
  unfold Oper.wp at h
  generalize (execOp a.eval o).run P w = r at *
  cases r with
  | ok x w' =>
    cases x <;> simp only [Oper.upon, Oper.uponIn] at h ⊢ <;>
      first
        | exact h
        | exact ⟨depth_wideIn ho, (calls_wideIn ho h).mono fun e w'' he => by cases e <;> exact he⟩
        | exact ⟨depth_wideIn ho, rows_wideIn ho h⟩
  | halt x w' => cases x <;> simp only [Oper.upon, Oper.uponIn] at h ⊢ <;> exact h
theorem noOut_lets {K : Act → World → Prop} : ¬ LetsOut (Exit.then K NoOut) := by rintro ⟨a, w, h⟩; exact h
theorem noOut_to {e : Exit} {a : Act} {w : World} (h : Exit.then (Q .normal) NoOut e a w) : Q e a w := by
  cases e <;> first | exact h | exact (h : False).elim
theorem wpOpIn_of {i : Nat} {K K' : Act → World → Prop} {a : Act} {w : World} (ho : F = Fence.wide ∨ ∃ l, F = Fence.wide.inRound l) (hd : noDefer ops = true) (hQ : ¬ LetsOut Q) (hK : ∀ a w, K a w → K' a w) (h : wpOp P ops Q i K a w) : wpOpIn F n P ops Q i K' a w := by
  unfold wpOp at h
  unfold wpOpIn
  cases hi : ops[i]? with
  | none => simp only [hi] at h ⊢; exact hK _ _ h
  | some o =>
    simp only [hi] at h ⊢
    split
    · rename_i hw
      rw [if_pos hw] at h
      exact Oper.wpIn_mono hK (oper_wpIn ho (noDefer_at hd hi) (h.resolve_right fun h => hQ h.2))
    · rename_i hw
      rw [if_neg hw] at h
      exact ⟨fun f _ => fn_wideIn ho f, hK _ _ h⟩
theorem wpAnyIn_of (ho : F = Fence.wide ∨ ∃ l, F = Fence.wide.inRound l) (hd : noDefer ops = true) (hQ : ¬ LetsOut Q) {md : Region.Mode} : ∀ (fuel : Nat) (listed : Array Bool) (a : Act) (w : World), wpAny P md ops Q fuel listed a w → wpAnyIn F n P md ops Q fuel listed a w
  | 0, _, _, _, h => h
  | fuel + 1, _, _, _, h => ⟨h.1, fun i hi => wpOpIn_of ho hd hQ (fun _ _ h => wpAnyIn_of ho hd hQ fuel _ _ _ h) (h.2 i hi)⟩
/-- a drawn region within a round, in the text's order, under a condition -/
theorem wpIn_region_lexS {id : Nat} {a : Act} {w : World} {l : List Oper} (ho : F = Fence.wide ∨ ∃ l, F = Fence.wide.inRound l) (ex fz : List Nat) (S : World → Prop) (hm : P.follows .mixedOrders = true) (hB : lexOkS ex fz l.toArray = true) (hd : noDefer l.toArray = true) (hS : S w.drew)
    (h : S w.drew → wpLexS P l.toArray ex fz S (Q .normal) 0 l a w.drew) : (Code.region id l.toArray true).wpIn F n P Q a w := by
  simp only [lexOkS, Bool.and_eq_true] at hB
  refine wpIn_mono (wpIn_region_any (Q := Exit.then (Q .normal) NoOut) hm (wpAnyIn_of ho hd noOut_lets _ _ _ _ (wpAny_of_RS (Q := Exit.then (Q .normal) NoOut) (ex := ex) (fz := fz) (S := S) _ _ _ _ hS ?_))) (fun e a w h => noOut_to h)
  have := R_lexS (P := P) (ex := ex) (fz := fz) (S := S) (Q := Q .normal) hB.1 l 0 (Array.replicate l.toArray.size false) a w.drew (by simp) (fun j hj => by omega) (fun j oj _ hl => (by rw [getD_replicate_false] at hl; cases hl)) (by simpa using hB.2) (h hS)
  simp only [List.size_toArray] at this ⊢
  exact this
/-- .. and without one -/
theorem wpIn_region_lex {id : Nat} {a : Act} {w : World} {l : List Oper} (ho : F = Fence.wide ∨ ∃ l, F = Fence.wide.inRound l) (ex : List Nat) (hm : P.follows .mixedOrders = true) (hB : lexOk ex l.toArray = true) (hd : noDefer l.toArray = true)
    (h : wpLex P l.toArray ex (Q .normal) 0 l a w.drew) : (Code.region id l.toArray true).wpIn F n P Q a w := by
  simp only [lexOk, Bool.and_eq_true] at hB
  refine wpIn_mono (wpIn_region_any (Q := Exit.then (Q .normal) NoOut) hm (wpAnyIn_of ho hd noOut_lets _ _ _ _ (wpAny_of_R (Q := Exit.then (Q .normal) NoOut) (ex := ex) _ _ _ _ ?_))) (fun e a w h => noOut_to h)
  have := R_lex (P := P) (ex := ex) (Q := Q .normal) hB.1 l 0 (Array.replicate l.toArray.size false) a w.drew (by simp) (fun j hj => by omega) (fun j oj _ hl => (by rw [getD_replicate_false] at hl; cases hl)) (by simpa using hB.2) h
  simp only [List.size_toArray] at this ⊢
  exact this
end
/-! ### what stays where no cells turn -/
structure Ck (W W' : World) : Prop where
  size : W.heap.size ≤ W'.heap.size
  same : ∀ (k : Nat) (cs : Array Value) (t : TypeId) (fr : Nat × Nat), W.heap[k]? = some (Obj.cells cs t fr) → W'.heap[k]? = some (Obj.cells cs t fr)
theorem Turn.ck {B : Nat} {W W' : World} (h : Turn B W W') : Ck W W' := by
  obtain ⟨row, hg, hr⟩ := h
  refine ⟨hg.size, fun k cs t fr hk => ?_⟩
  rw [hg.block k (Array.getElem?_eq_some_iff.1 hk).1 (fun e => ?_)]
  · exact hk
  · obtain ⟨_, o, ho, hc⟩ := hr k e.symm
    rw [hk] at ho
    cases ho
    cases hc
theorem Ck.of {W W' : World} (h : Below W.heap.size W W') : Ck W W' := ⟨h.size, fun k cs t fr hk => by rw [h.block k (Array.getElem?_eq_some_iff.1 hk).1]; exact hk⟩
theorem Ck.trans {A B C : World} (h : Ck A B) (k : Ck B C) : Ck A C := ⟨Nat.le_trans h.size k.size, fun i cs t fr hi => k.same i cs t fr (h.same i cs t fr hi)⟩
theorem RowIs.ck {W W' : World} {g : Nat} {cs : Array Value} (h : RowIs W g cs) (hk : Ck W W') : RowIs W' g cs := by
  obtain ⟨t, ht⟩ := h.row.heap
  rw [h.has] at ht
  have := hk.same g _ _ _ ht
  exact ⟨⟨_, _, this⟩, rowOf_eq this⟩
theorem Ck.cell {W W' : World} (hk : Ck W W') {a : Addr} {v : Value} (h : W.cell? a = some v) : W'.cell? a = some v := by
  unfold World.cell? at h ⊢
  cases hb : W.heap[a.block]? with
  | none => rw [hb] at h; simp at h
  | some o =>
    cases o with
    | cells cs t fr => rw [hk.same _ _ _ _ hb]; rw [hb] at h; exact h
    | _ => rw [hb] at h; simp at h
theorem Rd8.ck {W W' : World} {B : Nat} {A : Option Addr} {l : List UInt8} (h : Rd8 W B A l) (hk : Ck W W') : Rd8 W' B A l := fun hn => by
  obtain ⟨g, o, rfl, hb, hc⟩ := h hn
  exact ⟨g, o, rfl, hb, fun i hi => hk.cell (hc i hi)⟩
theorem Bs.ck {W W' : World} {v : Value} {l : List UInt8} (h : Bs W v l) (hk : Ck W W') : Bs W' v l := by
  obtain ⟨A, c, h1, h2, h3, h4⟩ := h
  exact ⟨A, c, h1, h2, h3, (h4.ck hk).more hk.size⟩
theorem Own8.ck {T : TypeId} {W W' : World} {base : Nat} {v : Value} {l : List UInt8} (h : Own8 T W base v l) (hk : Ck W W') : Own8 T W' base v l := by
  obtain ⟨h1, h2⟩ := h
  refine ⟨h1, ?_⟩
  rcases h2 with h2 | ⟨g, cap, cur, hv, hg, hh, r⟩
  · exact .inl h2
  · exact .inr ⟨g, cap, cur, hv, hg, hk.same _ _ _ _ hh, r⟩
theorem Turn.below {n₀ B : Nat} {A W W' : World} (h : Turn B W W') (hb : Below n₀ A W) (hA : n₀ ≤ A.heap.size) (hB : n₀ ≤ B) : Below n₀ A W' := by
  obtain ⟨row, hg, hr⟩ := h
  exact hb.grown hg (Nat.le_trans hA hb.size) fun k e => Nat.le_trans hB (hr k e).1
theorem Turn.ownFrom {β : Type} {B : Nat} {I : β → World → Prop} (h : ∀ s W W', I s W → Turn B W W' → I s W') : OwnFrom B I := fun s W W' row hs hg hr => h s W W' hs ⟨row, hg, hr⟩
/-- all that is no cells stays where nothing that lay has turned, but for a block of cells -/
theorem keepsFrom_below {B : Nat} {W W' : World} (h : Below W.heap.size W W') : KeepsFrom B W W' := ⟨h.size, fun k o _ hk _ => by rw [h.block k (Array.getElem?_eq_some_iff.1 hk).1]; exact hk⟩
end Go.Proofs.Ytifnpphkplogaaa
