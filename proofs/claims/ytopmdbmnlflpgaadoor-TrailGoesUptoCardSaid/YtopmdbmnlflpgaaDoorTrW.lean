/- A region that draws its order, walked in an order of one's own choice (a list of positions), in which one loud operation g may come earlier, ahead of each loud one. Under a condition S on the world, as in XLexS, XFloat. | Layer 14: a trail's start and its next, the program's. | Layer 14: a trail's next, the program's. Printed by gen_trn.py. | Layer 14: a trail over a list of frames, the program's. -/
import Derived.Test.YtopmdbmnlflpgaaDoorFloat
import Derived.Test.YtopmdbmnlflpgaaDoorLog
import Derived.Test.YtopmdbmnlflpgaaDoorMacP
import Derived.Test.YtopmdbmnlflpgaaDoorPart
import Derived.Lib.SmallJoins
import Derived.Test.YtopmdbmnlflpgaaDoorMacS
namespace Go.Proofs.YtopmdbmnlflpgaaDoor
section
section
variable {P : Program} {ops : Array Oper} {ex fz : List Nat} {S : World → Prop}
def okI (ops : Array Oper) (ex fz : List Nat) : List Nat → Array Bool → Bool
  | [], listed => (Region.ready .any ops listed).isEmpty
  | k :: r, listed => (Region.ready .any ops listed).contains k && (List.range ops.size).all (fun j => listed.getD j true || decide (j = k) || okPairS ops ex fz k j) && okI ops ex fz r (listed.setIfInBounds k true)
def okIF (ops : Array Oper) (ex fz : List Nat) (g : Nat) : List Nat → Array Bool → Bool
  | [], _ => false
  | k :: r, listed => if k = g then okI ops ex fz (k :: r) listed else
    match ops[k]?, ops[g]? with
    | some ok, some og =>
      (Region.ready .any ops listed).contains k && okIF ops ex fz g r (listed.setIfInBounds k true) &&
      (match clsS ex fz k ok with
       | 0 => (List.range ops.size).all (fun j => listed.getD j true || decide (j = k) || okPairS ops ex fz k j)
       | 1 => false
       | _ => (Region.ready .any ops listed).contains g && (clsS ex fz g og == 2) && (List.range ops.size).all (fun j => listed.getD j true || decide (j = k) || decide (j = g) || okPair2 ops ex fz k g j) && decide (((k :: r).erase g).length = r.length) && okI ops ex fz ((k :: r).erase g) (listed.setIfInBounds g true))
    | _, _ => false
/-- the walk in this order -/
def wpI (P : Program) (ops : Array Oper) (ex fz : List Nat) (S : World → Prop) (Q : Act → World → Prop) : List Nat → Act → World → Prop
  | [], a, w => Q a w
  | k :: r, a, w =>
    match ops[k]? with
    | none => False
    | some o => match clsS ex fz k o with
      | 0 => ∃ v, YieldsIf P ops S o v a ∧ wpI P ops ex fz S Q r (a.put o.dst v) w
      | 1 => ∃ v, ReadsAt P ops o v a w ∧ wpI P ops ex fz S Q r (a.put o.dst v) w
      | _ => loudW P ops S o (wpI P ops ex fz S Q r) a w
def wpIF (P : Program) (ops : Array Oper) (ex fz : List Nat) (S : World → Prop) (Q : Act → World → Prop) (g : Nat) : List Nat → Act → World → Prop
  | [], _, _ => False
  | k :: r, a, w => if k = g then wpI P ops ex fz S Q (k :: r) a w else
    match ops[k]?, ops[g]? with
    | some o, some og => match clsS ex fz k o with
      | 0 => ∃ v, YieldsIf P ops S o v a ∧ wpIF P ops ex fz S Q g r (a.put o.dst v) w
      | 1 => False
      | _ => loudW P ops S o (wpIF P ops ex fz S Q g r) a w ∧ loudW P ops S og (wpI P ops ex fz S Q ((k :: r).erase g)) a w
    | _, _ => False
theorem pair_of {k j : Nat} {o oj : Oper} {listed : Array Bool} (h0 : ops[k]? = some o) (hj : ops[j]? = some oj) (hf : listed.getD j true = true ∨ j = k ∨ okPairS ops ex fz k j = true) (hne : j ≠ k) (hun : listed.getD j true = false) : okPairS ops ex fz k j = true := by
  rcases hf with h | h | h
  · rw [hun] at h; cases h
  · exact absurd h hne
  · exact h
theorem R_I {Q : Act → World → Prop} (hs : Region.noSelect ops = true) : ∀ (l : List Nat) (listed : Array Bool) (a : Act) (w : World), Closed ops listed → okI ops ex fz l listed = true → wpI P ops ex fz S Q l a w → wpAnyS P ops ex fz S Q l.length listed a w
  | [], _, _, _, _, hB, h => ⟨by simpa [okI] using hB, h⟩
  | k :: l, listed, a, w, hc, hB, h => by
    simp only [okI, Bool.and_eq_true, List.all_eq_true, List.mem_range, Bool.or_eq_true, decide_eq_true_eq] at hB
    obtain ⟨⟨hr, hf⟩, hB'⟩ := hB
    have hr' : k ∈ Region.ready .any ops listed := by simpa using hr
    have hsel := Region.noSelect_spec hs
    simp only [wpI] at h
    split at h
    · exact h.elim
    · rename_i o h0
      have pair : ∀ j oj, ops[j]? = some oj → j ≠ k → listed.getD j true = false → okPairS ops ex fz k j = true := fun j oj hj hne hun =>
        pair_of h0 hj (by rcases hf j (Array.getElem?_eq_some_iff.1 hj).1 with (h | h) | h
                          · exact .inl h
                          · exact .inr (.inl h)
                          · exact .inr (.inr h)) hne hun
      have next := fun a w => R_I (Q := Q) hs l (listed.setIfInBounds k true) a w (hc.set hr') hB'
      rcases clsS_cases ex fz k o with hcl | hcl | hcl <;> simp only [hcl] at h
      · obtain ⟨v, hy, hK⟩ := h
        refine R_first0S h0 hcl hsel l.length listed a w hc (fun j oj hj hne hun => ?_) hr' hy (next _ _ hK)
        have := pair j oj hj hne hun
        simp only [okPairS, h0, hj, hcl, Bool.or_eq_true] at this
        rcases this with (h | h) | h
        · exact .inl (waits_of hj h)
        · exact .inr (.inl h)
        · exact .inr (.inr h)
      · obtain ⟨v, hy, hK⟩ := h
        refine R_first1S h0 hcl hsel l.length listed a w hc (fun j oj hj hne hun => ?_) hr' hy (next _ _ hK)
        have := pair j oj hj hne hun
        simp only [okPairS, h0, hj, hcl, Bool.or_eq_true, Bool.and_eq_true, beq_iff_eq] at this
        rcases this with (h | h) | h
        · exact .inl (waits_of hj h)
        · exact .inr (.inl h)
        · exact .inr (.inr h)
      · refine R_lateS h0 hcl hsel l.length listed a w hc (fun j oj hj hne hun => ?_) hr' (loudW_wpOp h0 h next)
        have := pair j oj hj hne hun
        simp only [okPairS, h0, hj, hcl, Bool.or_eq_true, Bool.and_eq_true, beq_iff_eq] at this
        rcases this with (h | h) | h
        · exact .inl (waits_of hj h)
        · exact .inr (.inl h)
        · exact .inr (.inr h)
theorem R_IF {Q : Act → World → Prop} (g : Nat) (hs : Region.noSelect ops = true) : ∀ (l : List Nat) (listed : Array Bool) (a : Act) (w : World), Closed ops listed → okIF ops ex fz g l listed = true → wpIF P ops ex fz S Q g l a w → wpAnyS P ops ex fz S Q l.length listed a w
  | [], _, _, _, _, hB, _ => by simp [okIF] at hB
  | k :: l, listed, a, w, hc, hB, h => by
    by_cases hkg : k = g
    · simp only [okIF, if_pos hkg] at hB
      simp only [wpIF, if_pos hkg] at h
      exact R_I hs (k :: l) listed a w hc hB h
    · simp only [okIF, if_neg hkg] at hB
      simp only [wpIF, if_neg hkg] at h
      split at h
      · rename_i o og h0 hg
        simp only [h0, hg, Bool.and_eq_true] at hB
        obtain ⟨⟨hr, hB'⟩, hf⟩ := hB
        have hr' : k ∈ Region.ready .any ops listed := by simpa using hr
        have hsel := Region.noSelect_spec hs
        have next := fun a w => R_IF (Q := Q) g hs l (listed.setIfInBounds k true) a w (hc.set hr') hB'
        rcases clsS_cases ex fz k o with hcl | hcl | hcl <;> simp only [hcl] at h hf
        · obtain ⟨v, hy, hK⟩ := h
          simp only [List.all_eq_true, List.mem_range, Bool.or_eq_true, decide_eq_true_eq] at hf
          refine R_first0S h0 hcl hsel l.length listed a w hc (fun j oj hj hne hun => ?_) hr' hy (next _ _ hK)
          have this := pair_of (ex := ex) (fz := fz) h0 hj (by rcases hf j (Array.getElem?_eq_some_iff.1 hj).1 with (h | h) | h
                                                               · exact .inl h
                                                               · exact .inr (.inl h)
                                                               · exact .inr (.inr h)) hne hun
          simp only [okPairS, h0, hj, hcl, Bool.or_eq_true] at this
          rcases this with (h | h) | h
          · exact .inl (waits_of hj h)
          · exact .inr (.inl h)
          · exact .inr (.inr h)
        · simp only [Bool.and_eq_true, beq_iff_eq, List.all_eq_true, List.mem_range, Bool.or_eq_true, decide_eq_true_eq] at hf
          obtain ⟨⟨⟨⟨hrg, hcg⟩, hf⟩, hlen⟩, hBD⟩ := hf
          have hrg' : g ∈ Region.ready .any ops listed := by simpa using hrg
          have nextD := fun a w h => by
            have := R_I (Q := Q) (P := P) (S := S) (ex := ex) (fz := fz) hs ((k :: l).erase g) (listed.setIfInBounds g true) a w (hc.set hrg') hBD h
            rw [hlen] at this
            exact this
          refine R_late2S h0 hg hcl hcg hsel l.length listed a w hc (fun j oj hj hne hne2 hun => ?_) hr' hrg' (loudW_wpOp h0 h.1 next) (loudW_wpOp hg h.2 nextD)
          rcases hf j (Array.getElem?_eq_some_iff.1 hj).1 with ((h | h) | h) | this
          · rw [hun] at h; cases h
          · exact absurd h hne
          · exact absurd h hne2
          · simp only [okPair2, h0, hg, hj, Bool.or_eq_true, Bool.and_eq_true, beq_iff_eq] at this
            rcases this with (((h | h) | h) | h) | ⟨⟨h, h'⟩, h''⟩
            · exact .inl (.inl (waits_of hj h))
            · exact .inl (.inr (waits_of hj h))
            · exact .inr (.inl (.inl h))
            · exact .inr (.inl (.inr h))
            · exact .inr (.inr ⟨h, h', h''⟩)
      · exact h.elim
def okAllF (ex fz : List Nat) (g : Nat) (l : List Nat) (ops : Array Oper) : Bool := Region.noSelect ops && decide (l.length = ops.size) && okIF ops ex fz g l (Array.replicate ops.size false)
/-- A REGION THAT DRAWS ITS ORDER, IN THE ORDER order, NUMBER g FLOATS. -/
theorem wp_region_F {id : Nat} {Q : Exit → Act → World → Prop} {a : Act} {w : World} {l : List Oper} (ex fz : List Nat) (order : List Nat) (g : Nat) (S : World → Prop) (hm : P.follows .mixedOrders = true) (hB : okAllF ex fz g order l.toArray = true) (hS : S w.drew)
    (h : S w.drew → wpIF P l.toArray ex fz S (Q .normal) g order a w.drew) : (Code.region id l.toArray true).wp P Q a w := by
  simp only [okAllF, Bool.and_eq_true, decide_eq_true_eq] at hB
  refine wp_region_any hm (wpAny_of_RS (ex := ex) (fz := fz) (S := S) _ _ _ _ hS ?_)
  have := R_IF (P := P) (ex := ex) (fz := fz) (S := S) (Q := Q .normal) g hB.1.1 order (Array.replicate l.toArray.size false) a w.drew (fun j oj _ hl => (by rw [getD_replicate_false] at hl; cases hl)) hB.2 (h hS)
  rw [hB.1.2] at this
  exact this
/-! ### step by step -/
section
variable {Q : Act → World → Prop} {k g : Nat} {o og : Oper} {r : List Nat} {a : Act} {w : World}
theorem wpI_nil (h : Q a w) : wpI P ops ex fz S Q [] a w := h
theorem wpI_pure (h0 : ops.toList[k]? = some o) (hc : clsS ex fz k o = 0)
    (h : ∀ K : Act → World → Prop, (∀ a w, wpI P ops ex fz S Q r a w → K a w) →
      if Region.wanted o (yielded ops a.tmps) then ∃ v, (∀ w', S w' → (execOp a.eval o).run P w' = .ok (.value v) w') ∧ K (a.put o.dst v) w else K (a.put o.dst undef) w) : wpI P ops ex fz S Q (k :: r) a w := by
  rw [Array.getElem?_toList] at h0
  have := h _ (fun _ _ h => h)
  simp only [wpI, h0, hc]
  split at this
  · rename_i hw; obtain ⟨v, h1, h2⟩ := this; exact ⟨v, .inl ⟨hw, h1⟩, h2⟩
  · rename_i hw; exact ⟨undef, .inr ⟨by simpa using hw, rfl⟩, this⟩
theorem wpI_pure0 (h0 : ops.toList[k]? = some o) (hc : clsS ex fz k o = 0)
    (h : ∀ K : Act → World → Prop, (∀ a w, wpI P ops ex fz S Q r a w → K a w) →
      if Region.wanted o (yielded ops a.tmps) then ∃ v, (∀ w', (execOp a.eval o).run P w' = .ok (.value v) w') ∧ K (a.put o.dst v) w else K (a.put o.dst undef) w) : wpI P ops ex fz S Q (k :: r) a w := by
  refine wpI_pure h0 hc fun K hK => ?_
  have := h K hK
  split at this
  · rename_i hw; rw [if_pos hw]; obtain ⟨v, h1, h2⟩ := this; exact ⟨v, fun w' _ => h1 w', h2⟩
  · rename_i hw; rw [if_neg hw]; exact this
theorem wpI_loud (h0 : ops.toList[k]? = some o) (hc : clsS ex fz k o = 2)
    (h : ∀ K : Act → World → Prop, (∀ a w, S w → (S w → wpI P ops ex fz S Q r a w) → K a w) → wpList P ops (Exit.then K NoOut) [o] a w) : wpI P ops ex fz S Q (k :: r) a w := by
  rw [Array.getElem?_toList] at h0
  simp only [wpI, h0, hc]
  exact loudW_of h
theorem wpIF_here (hk : k = g) (h : wpI P ops ex fz S Q (k :: r) a w) : wpIF P ops ex fz S Q g (k :: r) a w := by
  simp only [wpIF, if_pos hk]; exact h
theorem wpIF_pure (hk : k ≠ g) (h0 : ops.toList[k]? = some o) (hg : ops.toList[g]? = some og) (hc : clsS ex fz k o = 0)
    (h : ∀ K : Act → World → Prop, (∀ a w, wpIF P ops ex fz S Q g r a w → K a w) →
      if Region.wanted o (yielded ops a.tmps) then ∃ v, (∀ w', S w' → (execOp a.eval o).run P w' = .ok (.value v) w') ∧ K (a.put o.dst v) w else K (a.put o.dst undef) w) : wpIF P ops ex fz S Q g (k :: r) a w := by
  rw [Array.getElem?_toList] at h0 hg
  have := h _ (fun _ _ h => h)
  simp only [wpIF, if_neg hk, h0, hg, hc]
  split at this
  · rename_i hw; obtain ⟨v, h1, h2⟩ := this; exact ⟨v, .inl ⟨hw, h1⟩, h2⟩
  · rename_i hw; exact ⟨undef, .inr ⟨by simpa using hw, rfl⟩, this⟩
theorem wpIF_pure0 (hk : k ≠ g) (h0 : ops.toList[k]? = some o) (hg : ops.toList[g]? = some og) (hc : clsS ex fz k o = 0)
    (h : ∀ K : Act → World → Prop, (∀ a w, wpIF P ops ex fz S Q g r a w → K a w) →
      if Region.wanted o (yielded ops a.tmps) then ∃ v, (∀ w', (execOp a.eval o).run P w' = .ok (.value v) w') ∧ K (a.put o.dst v) w else K (a.put o.dst undef) w) : wpIF P ops ex fz S Q g (k :: r) a w := by
  refine wpIF_pure hk h0 hg hc fun K hK => ?_
  have := h K hK
  split at this
  · rename_i hw; rw [if_pos hw]; obtain ⟨v, h1, h2⟩ := this; exact ⟨v, fun w' _ => h1 w', h2⟩
  · rename_i hw; rw [if_neg hw]; exact this
theorem wpIF_loud (r2 : List Nat) (hr : (k :: r).erase g = r2) (hk : k ≠ g) (h0 : ops.toList[k]? = some o) (hg : ops.toList[g]? = some og) (hc : clsS ex fz k o = 2)
    (h : ∀ K : Act → World → Prop, (∀ a w, S w → (S w → wpIF P ops ex fz S Q g r a w) → K a w) → wpList P ops (Exit.then K NoOut) [o] a w)
    (h2 : ∀ K : Act → World → Prop, (∀ a w, S w → (S w → wpI P ops ex fz S Q r2 a w) → K a w) → wpList P ops (Exit.then K NoOut) [og] a w) : wpIF P ops ex fz S Q g (k :: r) a w := by
  subst hr
  rw [Array.getElem?_toList] at h0 hg
  simp only [wpIF, if_neg hk, h0, hg, hc]
  exact ⟨loudW_of h, loudW_of h2⟩
end
end
end
section
open Go.RowKit
def trL (h : List UInt8) (n : UInt32) : List Value := u8v h ++ [.int .u32 (n32 n)]
@[irreducible] def trC (h : List UInt8) (n : UInt32) : Array Value := (trL h n).toArray
theorem trC_def (h : List UInt8) (n : UInt32) : trC h n = (trL h n).toArray := by unfold trC; rfl
theorem trC_size (h : List UInt8) (hh : h.length = 32) (n : UInt32) : (trC h n).size = 33 := by simp [trC_def, trL, u8v_length, hh]
theorem trC_one (h : List UInt8) (n : UInt32) : (trC h n).all (·.oneCell') = true := by
  rw [trC_def, trL, List.all_toArray, List.all_append, List.all_eq_true.2 (u8v_one h)]
  rfl
@[irreducible] def startB (one two : List UInt8) : List UInt8 := shaB ([115, 116, 97, 114, 116] ++ (lowB (UInt64.ofNat one.length) 8).reverse ++ one ++ two)
theorem startB_def (one two : List UInt8) : startB one two = shaB ([115, 116, 97, 114, 116] ++ (lowB (UInt64.ofNat one.length) 8).reverse ++ one ++ two) := by unfold startB; rfl
theorem startB_length (one two : List UInt8) : (startB one two).length = 32 := by rw [startB_def, shaB_length]
@[irreducible] def nextB (h : List UInt8) (n : UInt32) (b : List UInt8) : List UInt8 := shaB ([110, 101, 120, 116] ++ (lowB (UInt64.ofNat n.toNat) 8).reverse ++ h ++ b)
theorem nextB_def (h : List UInt8) (n : UInt32) (b : List UInt8) : nextB h n b = shaB ([110, 101, 120, 116] ++ (lowB (UInt64.ofNat n.toNat) 8).reverse ++ h ++ b) := by unfold nextB; rfl
theorem nextB_length (h : List UInt8) (n : UInt32) (b : List UInt8) : (nextB h n b).length = 32 := by rw [nextB_def, shaB_length]
/-- a row of bytes made a string's, and back: marked -/
theorem conv_mark {w : World} {b n c : Nat} {l : List UInt8} (hr : RowIs w b (u8s l)) (hn : n = l.length) (hc : n ≤ c) (hm : n ≤ 140737488351232) : ∃ w', (convert 27 27 (.slice (some ⟨b, 0, none⟩) n c)).run Tryd.prog w = .ok (.slice (some ⟨b, 0, none⟩) n c) w' ∧ Bs w' (.slice (some ⟨b, 0, none⟩) n c) l ∧ Upd b w w' ∧ (∀ p, w'.cell? p = w.cell? p) := by
  obtain ⟨t, ht⟩ := hr.row.heap
  rw [hr.has] at ht
  have hlt := hr.lt
  have hsh : w.shape? b = some (t, (u8s l).size) := by unfold World.shape?; rw [ht]
  have hrun : (convert 27 27 (.slice (some ⟨b, 0, none⟩) n c)).run Tryd.prog w = .ok (.slice (some ⟨b, 0, none⟩) n c) (w.freeze ⟨b, (u8s l).size, none⟩ 1) := by
    simp [convert, run_underlying Tryd.underlying27, run_underlying Tryd.underlying5, markStringish, hsh]
  refine ⟨_, hrun, ?_, ⟨rfl, rfl, rfl, by simp [World.freeze], fun k hk hne => ?_⟩, fun p => ?_⟩
  · have hh : (w.freeze ⟨b, (u8s l).size, none⟩ 1).heap[b]? = some (.cells (u8s l) t ((u8s l).size, (u8s l).size + 1)) := by
      simp [World.freeze, Array.getElem?_modify, ht]
    refine Bs.of' hn.symm hc hm fun _ => ⟨b, 0, rfl, by simp [World.freeze]; exact hlt, fun i hi => ?_⟩
    rw [Nat.zero_add, cell_of_row _ b i _ t _ hh]
    exact u8s_get l i (by omega)
  · simp only [World.freeze]
    rw [if_neg (by decide)]
    simp only [Array.getElem?_modify]
    rw [if_neg (Ne.symm hne)]
  · by_cases hp : p.block = b
    · have hh : (w.freeze ⟨b, (u8s l).size, none⟩ 1).heap[b]? = some (.cells (u8s l) t ((u8s l).size, (u8s l).size + 1)) := by
        simp [World.freeze, Array.getElem?_modify, ht]
      unfold World.cell?
      rw [hp, hh, ht]
    · refine World.cell?_of_block (w := w) ?_
      simp only [World.freeze]
      rw [if_neg (by decide)]
      simp only [Array.getElem?_modify]
      rw [if_neg (Ne.symm hp)]
theorem Bs.cells {w w' : World} {v : Value} {l : List UInt8} (h : Bs w v l) (hc : ∀ p, w'.cell? p = w.cell? p) (hs : w.heap.size ≤ w'.heap.size) : Bs w' v l := by
  obtain ⟨A, c, h1, h2, h3, h4⟩ := h
  refine ⟨A, c, h1, h2, h3, fun h0 => ?_⟩
  obtain ⟨g, o, e, hg, hcs⟩ := h4 h0
  exact ⟨g, o, e, Nat.lt_of_lt_of_le hg hs, fun i hi => (hc _).trans (hcs i hi)⟩
theorem fold_getT (off : Nat) : ∀ (l : List Value) (k i : Nat) (a : Array Value), ((l.zipIdx k).foldl (fun cs (p : Value × Nat) => cs.setIfInBounds (off + p.2) p.1) a)[i]? = if off + k ≤ i ∧ i < off + k + l.length ∧ i < a.size then l[i - (off + k)]? else a[i]?
  | [], k, i, a => by simp; omega
  | x :: l, k, i, a => by
    rw [List.zipIdx_cons, List.foldl_cons, fold_getT off l (k + 1) i]
    simp only [Array.size_setIfInBounds, List.length_cons]
    by_cases h1 : off + (k + 1) ≤ i ∧ i < off + (k + 1) + l.length ∧ i < a.size
    · rw [if_pos h1, if_pos (by omega), show i - (off + k) = (i - (off + (k + 1))) + 1 by omega]; simp
    · rw [if_neg h1]
      by_cases h2 : off + k = i
      · subst h2
        simp only [Array.getElem?_setIfInBounds]
        by_cases h3 : off + k < a.size
        · simp [h3]
        · simp [h3]
      · rw [if_neg (by omega)]
        simp [h2]
theorem fill_partT {place : Nat → Option (Nat × Nat)} {s off i : Nat} (hp : place i = some (off, s)) (base : List Value) (v : Value) (cs : List Value) (hv : v.cells = cs.toArray) (hc : cs.length = s) (hb : off + s ≤ base.length) (rest : List (Nat × Value)) :
    Instr.fill place base.toArray ((i, v) :: rest) = Instr.fill place (spl base off cs).toArray rest := by
  subst hc
  have hcond : ¬ (cs.toArray.size ≠ cs.length ∨ off + cs.toArray.size > base.toArray.size) := by simp; omega
  conv => lhs; unfold Instr.fill
  simp only [hp, hv]
  rw [if_neg (by simpa using hcond)]
  congr 1
  apply Array.ext_getElem?
  intro j
  have e : cs.toArray.zipIdx.foldl (fun (cs : Array Value) (p : Value × Nat) => cs.setIfInBounds (off + p.2) p.1) base.toArray = (cs.zipIdx 0).foldl (fun cs (p : Value × Nat) => cs.setIfInBounds (off + p.2) p.1) base.toArray := by
    rw [← Array.foldl_toList, Array.toList_zipIdx]
  have h := fold_getT off cs 0 j base.toArray
  rw [← e] at h
  rw [h, List.getElem?_toArray, List.getElem?_toArray, spl, Nat.add_zero]
  simp only [List.size_toArray]
  by_cases h1 : j < off
  · rw [if_neg (by omega), List.getElem?_append_left (by simp; omega), List.getElem?_append_left (by simp; omega), List.getElem?_take, if_pos h1]
  · by_cases h2 : j < off + cs.length
    · rw [if_pos (by omega), List.getElem?_append_left (by simp; omega), List.getElem?_append_right (by simp; omega)]
      simp [show min off base.length = off by omega]
    · rw [if_neg (by omega), List.getElem?_append_right (by simp; omega), List.getElem?_drop]
      simp [show min off base.length = off by omega, show off + cs.length + (j - (off + cs.length)) = j by omega]
theorem trBuilt (parts : List (Nat × Value)) : Tryd.prog.built 64 parts = Instr.fill (#[(0, 32), (32, 1)][·]?) (u8v (zeros 32) ++ [Value.int .u32 0]).toArray parts := by
  rw [u8v_def, zeros_def]
  kernel_rfl
theorem fillTr (key : List UInt8) (hkey : key.length = 32) : Instr.fill (#[(0, 32), (32, 1)][·]?) (u8v (zeros 32) ++ [Value.int .u32 0]).toArray [(0, .agg (u8s key))] = some (trC key 0) := by
  rw [fill_partT (s := 32) (off := 0) rfl _ (.agg (u8s key)) (u8v key) (by rw [u8s_toArray]; rfl) (by rw [u8v_length, hkey]) (by rw [List.length_append, u8v_length, zeros_length]; omega)]
  unfold Instr.fill
  rw [trC_def, trL, spl, List.take_zero, List.nil_append, Nat.zero_add, u8v_length, hkey, List.drop_append_of_le_length (by rw [u8v_length, zeros_length]; omega), List.drop_of_length_le (by rw [u8v_length, zeros_length]; omega), List.nil_append, n32_def]
  rfl
theorem fillTr2 (key : List UInt8) (hkey : key.length = 32) (n : UInt32) : Instr.fill (#[(0, 32), (32, 1)][·]?) (u8v (zeros 32) ++ [Value.int .u32 0]).toArray [(0, .agg (u8s key)), (1, .int .u32 (n32 n))] = some (trC key n) := by
  rw [fill_partT (s := 32) (off := 0) rfl _ (.agg (u8s key)) (u8v key) (by rw [u8s_toArray]; rfl) (by rw [u8v_length, hkey]) (by rw [List.length_append, u8v_length, zeros_length]; omega)]
  have e : spl (u8v (zeros 32) ++ [Value.int .u32 0]) 0 (u8v key) = u8v key ++ [Value.int .u32 0] := by
    rw [spl, List.take_zero, List.nil_append, Nat.zero_add, u8v_length, hkey, List.drop_append_of_le_length (by rw [u8v_length, zeros_length]; omega), List.drop_of_length_le (by rw [u8v_length, zeros_length]; omega), List.nil_append]
  rw [e, fill_partT (s := 1) (off := 32) rfl _ (.int .u32 (n32 n)) [.int .u32 (n32 n)] rfl rfl (by rw [List.length_append, u8v_length, hkey]; simp)]
  unfold Instr.fill
  rw [trC_def, trL, spl, List.take_append_of_le_length (by rw [u8v_length]; omega), List.take_of_length_le (by rw [u8v_length]; omega), List.drop_of_length_le (by rw [List.length_append, u8v_length, hkey]; simp), List.append_nil]
theorem trBuild (key : List UInt8) (hkey : key.length = 32) (w : World) : (buildK 64 #[(0, .agg (u8s key))]).run Tryd.prog w = .ok (.value (.agg (trC key 0))) w := run_buildK (by rw [trBuilt]; exact fillTr key hkey) w
theorem trBuild2 (key : List UInt8) (hkey : key.length = 32) (n : UInt32) (w : World) : (buildK 64 #[(0, .agg (u8s key)), (1, .int .u32 (n32 n))]).run Tryd.prog w = .ok (.value (.agg (trC key n))) w := run_buildK (by rw [trBuilt]; exact fillTr2 key hkey n) w
theorem xtrBuild (ev : Operand → Value) (d : Option Tmp) (ps : Array (Nat × Operand)) (ty : TypeId) (p : String) (af : Array Edge) (g : Option (Nat × Bool)) :
    execOp ev ⟨d, .build 64 ps, ty, p, af, g⟩ = buildK 64 (ps.map fun x => (x.1, ev x.2)) := exec_buildK ev d _ ps ty p af g
theorem xtrLoad (ev : Operand → Value) (d : Option Tmp) (x : Operand) (ty : TypeId) (p : String) (af : Array Edge) (g : Option (Nat × Bool)) :
    execOp ev ⟨d, .load 64 x, ty, p, af, g⟩ = loadAgg 64 (ev x) := exec_loadAgg ev d _ x ty p af g
theorem xtrStore (ev : Operand → Value) (d : Option Tmp) (x y : Operand) (ty : TypeId) (p : String) (af : Array Edge) (g : Option (Nat × Bool)) :
    execOp ev ⟨d, .store 64 x y, ty, p, af, g⟩ = storeAgg 64 (ev x) (ev y) := exec_storeAgg ev d _ x y ty p af g
theorem trStore (w : World) (g : Nat) (cs : Array Value) (hr : (rowOf w g).size = 33) (hc : cs.size = 33) (h1 : cs.all (·.oneCell') = true) :
    (storeAgg 64 (.pointer (some ⟨g, 0, none⟩)) (.agg cs)).run Tryd.prog w = .ok .skip (w.setRow g cs) :=
  run_storeAgg 33 64 (by omega) (by kernel_rfl) w g cs hr hc h1
theorem trload {w : World} {g : Nat} {h : List UInt8} {n : UInt32} (hr : RowIs w g (trC h n)) (hh : h.length = 32) : (loadAgg 64 (.pointer (some ⟨g, 0, none⟩))).run Tryd.prog w = .ok (.value (.agg (trC h n))) w := by
  have := run_loadAgg (P := Tryd.prog) 33 64 (by omega) (by kernel_rfl) (by kernel_rfl) w g (by rw [hr.has, trC_size h hh])
  rw [hr.has] at this; exact this
theorem trZero : ((Tryd.prog.info? 64).bind (·.zero)) = some (.agg (trC (zeros 32) 0)) := by
  rw [trC_def, trL, u8v_def, zeros_def, n32_def]
  kernel_rfl
theorem trZ : #[Value.int .u8 0, .int .u8 0, .int .u8 0, .int .u8 0, .int .u8 0, .int .u8 0, .int .u8 0, .int .u8 0, .int .u8 0, .int .u8 0, .int .u8 0, .int .u8 0, .int .u8 0, .int .u8 0, .int .u8 0, .int .u8 0, .int .u8 0, .int .u8 0, .int .u8 0, .int .u8 0, .int .u8 0, .int .u8 0, .int .u8 0, .int .u8 0, .int .u8 0, .int .u8 0, .int .u8 0, .int .u8 0, .int .u8 0, .int .u8 0, .int .u8 0, .int .u8 0, .int .u32 0] = trC (zeros 32) 0 := by
  rw [trC_def, trL, u8v_def, zeros_def, n32_def]
  kernel_rfl
attribute [go_sem ↓] xtrBuild xtrLoad xtrStore
attribute [go_sem] trZ trStore trC_size trC_one trBuild trBuild2
def TrRes (g : Nat) (N : Int) (h : List UInt8) (n : UInt32) (w : World) (e : Ending) (w' : World) : Prop := e = .returned (.agg (trC h n)) ∧ MetB w' g N ∧ Upd g w w'
set_option maxRecDepth 100000 in
set_option maxHeartbeats 1600000 in
theorem tstart_any (g : Nat) (N : Int) (vo vt : Value) (one two : List UInt8) (w : World) (hm : MetB w g N) (he : ShaEnv w) (ho : Bs w vo one) (ht : Bs w vt two) (h1 : one.length ≤ 2000000) (h2 : two.length ≤ 2000000) (hN : N ≤ 900000) :
    Calls Tryd.prog 42 #[.pointer (some ⟨g, 0, none⟩), vo, vt] w (TrRes g (N + 1) (startB one two) 0 w) := by
  obtain ⟨D, hD⟩ : ∃ D, D = startB one two := ⟨_, rfl⟩
  have hDl : D.length = 32 := by rw [hD, startB_length]
  obtain ⟨H, hH⟩ : ∃ H, H = (lowB (UInt64.ofNat one.length) 8).reverse := ⟨_, rfl⟩
  have hHl : H.length = 8 := by rw [hH, List.length_reverse, lowB_length]
  have hfl : [[115, 116, 97, 114, 116], H, one, two].flatten = [115, 116, 97, 114, 116] ++ H ++ one ++ two := by simp
  have hDe : shaB [[115, 116, 97, 114, 116], H, one, two].flatten = D := by rw [hfl, hD, hH, startB_def]
  have mm := fun (w : World) vl h1' h2' h3' => msum_any g N vl [[115, 116, 97, 114, 116], H, one, two] w h1' h2' (by rw [hfl]; simp [hHl]; omega) h3' (by omega)
  unfold MSum at mm
  rw [hDe] at mm
  rw [← hD]
  have MM := Lib.hid mm
  obtain ⟨n1, hn1⟩ : ∃ n, n = one.length := ⟨_, rfl⟩
  have hh := fun w => high_bs (UInt64.ofNat n1) 8 (by omega) (by omega) 8 rfl w
  rw [show n64 (UInt64.ofNat n1) = (n1 : Int) by rw [n64_def, UInt64.toNat_ofNat']; omega, show (lowB (UInt64.ofNat n1) 8).reverse = H by rw [hn1, hH]] at hh
  have HH := Lib.hid hh
  obtain ⟨A1, c1, rfl, -, -, -⟩ := id ho
  obtain ⟨A2, c2, rfl, -, -, -⟩ := id ht
  obtain ⟨n2, hn2⟩ : ∃ n, n = two.length := ⟨_, rfl⟩
  rw [← hn1] at ho h1 ⊢
  rw [← hn2] at ht h2 ⊢
  clear hD hH hfl hDe mm hh hn1 hn2
  have hgl := hm.lt
  have hB0 : Below w.heap.size w ((w.alloc (.cells (trC (zeros 32) 0) 64)).alloc (.cells #[.int .u8 115, .int .u8 116, .int .u8 97, .int .u8 114, .int .u8 116] 5)) := (by repeat (first | with_reducible exact Below.refl _ _ | with_reducible assumption | refine Below.drew ?_ | refine below_drewN ?_ | refine Below.alloc ?_ (by first | omega | (simp; done) | (simp; omega)) _ | refine below_setRow ?_ (by omega) _ | refine Below.setCell ?_ (by first | omega | (simp; done) | (simp; omega)) _))
  have R6 : RowIs ((w.alloc (.cells (trC (zeros 32) 0) 64)).alloc (.cells #[.int .u8 115, .int .u8 116, .int .u8 97, .int .u8 114, .int .u8 116] 5)) w.heap.size (trC (zeros 32) 0) := (RowIs.new _ _ _).alloc _
  have R7 : RowIs ((w.alloc (.cells (trC (zeros 32) 0) 64)).alloc (.cells #[.int .u8 115, .int .u8 116, .int .u8 97, .int .u8 114, .int .u8 116] 5)) (w.heap.size + 1) (u8s [115, 116, 97, 114, 116]) := by
    rw [show u8s [115, 116, 97, 114, 116] = #[.int .u8 115, .int .u8 116, .int .u8 97, .int .u8 114, .int .u8 116] by simp [u8s_def, n8_def]]
    exact RowIs.new' (by simp)
  obtain ⟨w1, hcv, hb1, hu1, -⟩ := conv_mark (n := 5) (c := 5) R7 rfl (Nat.le_refl _) (by omega)
  have hB1 : Below w.heap.size w w1 := hu1.below hB0 (by omega) (by simp; omega)
  replace hm := hm.step hB1; replace he := he.step hB1; replace ho := ho.step hB1; replace ht := ht.step hB1
  have R6 := R6.upd hu1 (by omega)
  have hs1 := hu1.size
  simp at hs1
  clear hB0 R7 hu1
  go_enter Tryd.func42, Tryd.ntmps42
  go_wp2_with fail
  refine (HH.out _).mono ?_
  rintro e w2 ⟨vH, rfl, hvH, hb2⟩
  obtain ⟨AH, cH, rfl, -, -, -⟩ := id hvH
  rw [hHl] at hvH ⊢
  replace hm := hm.step hb2; replace he := he.step hb2; replace ho := ho.step hb2; replace ht := ht.step hb2; replace hb1 := hb1.step hb2; replace R6 := R6.step hb2
  replace hB1 := hB1.trans (hb2.mono hB1.size)
  have hLL := BsL.lit4 (gg := w2.heap.size) 27 rfl hb1 hvH ho ht
  have hq : Below w2.heap.size w2 (w2.alloc (.cells #[.slice (some ⟨w.heap.size + 1, 0, none⟩) 5 5, .slice AH 8 cH, .slice A1 n1 c1, .slice A2 n2 c2] 27)) := (by repeat (first | with_reducible exact Below.refl _ _ | with_reducible assumption | refine Below.drew ?_ | refine below_drewN ?_ | refine Below.alloc ?_ (by first | omega | (simp; done) | (simp; omega)) _ | refine below_setRow ?_ (by omega) _ | refine Below.setCell ?_ (by first | omega | (simp; done) | (simp; omega)) _))
  replace hm := hm.step hq; replace he := he.step hq; replace R6 := R6.step hq
  have hs2 := hb2.size
  replace hB1 := hB1.trans (hq.mono hB1.size)
  clear hb2 hb1 hvH ho ht hcv
  go_wp2_with fail
  refine (MM.out _ _ hm hLL he).mono ?_
  rintro e w3 ⟨rfl, hm3, hu3⟩
  replace R6 := R6.upd hu3 (by omega)
  have hu := (Upd.of (g := g) hB1).trans hu3
  have hr6 := R6.lt
  clear hLL hq hm he hB1 hu3
  have R6h := R6.has; have R6r := R6.row; have R6l := R6.lt
  have hst := trStore w3 w.heap.size (trC D 0) (by rw [R6h, trC_size _ (zeros_length 32)]) (trC_size D hDl 0) (trC_one D 0)
  go_wp2_with fail
  refine bodyPost_retRow 6 _ w.heap.size 33 rfl rfl (by omega) (by kernel_rfl) (by kernel_rfl) ?_ rfl ?_
  · go_simp
  · go_simp
    obtain ⟨n, h0, h1, h2⟩ := hm3
    exact ⟨rfl, ⟨n, h0, h1, RowIs.set_ne h2 (by omega) _⟩, hu.setRow (Nat.le_refl _) _⟩
end
section
open Go.RowKit
attribute [local go_sem ↓] xtrBuild xtrLoad xtrStore
attribute [local go_sem] trZ trBuild trBuild2 trC_size trC_one
def TrRow (b : Nat) (h : List UInt8) (n : UInt32) (w : World) : Prop := RowIs w b (trC h n)
theorem TrRow.num {w : World} {b : Nat} {h : List UInt8} {n : UInt32} (hr : TrRow b h n w) (hh : h.length = 32) : w.cell? ⟨b, 32, none⟩ = some (.int .u32 (n32 n)) := by
  obtain ⟨t, ht⟩ := RowIs.row hr |>.heap
  rw [RowIs.has hr] at ht
  rw [cell_of_row _ _ 32 _ t (0, 0) ht, trC_def, trL]
  simp [u8v_length, hh]
theorem TrRow.head {w : World} {b : Nat} {h : List UInt8} {n : UInt32} (hr : TrRow b h n w) (hh : h.length = 32) : Bs w (.slice (some ⟨b, 0, none⟩) 32 32) h := by
  have hc : ∀ i, i < h.length → w.cell? ⟨b, 0 + i, none⟩ = some (.int .u8 (n8 (at8 h i))) := fun i hi => by
    obtain ⟨t, ht⟩ := RowIs.row hr |>.heap
    rw [RowIs.has hr] at ht
    rw [cell_of_row _ _ _ _ t (0, 0) ht, trC_def, trL, Nat.zero_add, List.getElem?_toArray, List.getElem?_append_left (by rw [u8v_length]; exact hi), u8v_get h i hi]
  exact Bs.of' hh (Nat.le_refl _) (by omega) fun _ => ⟨b, 0, rfl, RowIs.lt hr, hc⟩
set_option maxRecDepth 100000 in
set_option maxHeartbeats 3200000 in
theorem tnext_any (g : Nat) (N : Int) (h : List UInt8) (hh : h.length = 32) (n : UInt32) (vb : Value) (b : List UInt8) (w : World) (hm : MetB w g N) (he : ShaEnv w) (hb : Bs w vb b) (h1 : b.length ≤ 2000000) (hN : N ≤ 900000) :
    Calls Tryd.prog 45 #[.agg (trC h n), .pointer (some ⟨g, 0, none⟩), vb] w (TrRes g (N + 1) (nextB h n b) (n + 1) w) := by
  obtain ⟨D, hD⟩ : ∃ D, D = nextB h n b := ⟨_, rfl⟩
  have hDl : D.length = 32 := by rw [hD, nextB_length]
  obtain ⟨H, hH⟩ : ∃ H, H = (lowB (UInt64.ofNat n.toNat) 8).reverse := ⟨_, rfl⟩
  have hHl : H.length = 8 := by rw [hH, List.length_reverse, lowB_length]
  have hfl : [[110, 101, 120, 116], H, h, b].flatten = [110, 101, 120, 116] ++ H ++ h ++ b := by simp
  have hDe : shaB [[110, 101, 120, 116], H, h, b].flatten = D := by rw [hfl, hD, hH, nextB_def]
  have mm := fun (w : World) vl h1' h2' h3' => msum_any g N vl [[110, 101, 120, 116], H, h, b] w h1' h2' (by rw [hfl]; simp [hHl, hh]; omega) h3' (by omega)
  unfold MSum at mm
  rw [hDe] at mm
  rw [← hD]
  have MM := Lib.hid mm
  have hnb := UInt32.toNat_lt n
  have hhi := fun w => high_bs (UInt64.ofNat n.toNat) 8 (by omega) (by omega) 8 rfl w
  rw [show n64 (UInt64.ofNat n.toNat) = n32 n by rw [n64_def, n32_def, UInt64.toNat_ofNat']; omega, ← hH] at hhi
  have HH := Lib.hid hhi
  have hw64 : IntKind.u64.wrap (n32 n) = n32 n := by rw [n32_def, wrap_u64]; omega
  have hnx : IntKind.u32.wrap (n32 n + 1) = n32 (n + 1) := by rw [n32_def, n32_def, UInt32.toNat_add, wrap_u32]; simp
  obtain ⟨A1, c1, rfl, -, -, -⟩ := id hb
  obtain ⟨nb, hnb'⟩ : ∃ k, k = b.length := ⟨_, rfl⟩
  rw [← hnb'] at hb h1 ⊢
  clear hD hH hfl hDe mm hhi hnb'
  have hgl := hm.lt
  have hB : Below w.heap.size w ((w.alloc (.cells (trC h n) 64)).alloc (.cells (trC (zeros 32) 0) 64)).drew := (by repeat (first | with_reducible exact Below.refl _ _ | with_reducible assumption | refine Below.drew ?_ | refine below_drewN ?_ | refine Below.alloc ?_ (by first | omega | (simp; done) | (simp; omega)) _ | refine below_setRow ?_ (by omega) _ | refine Below.setCell ?_ (by first | omega | (simp; done) | (simp; omega)) _))
  have RT : RowIs ((w.alloc (.cells (trC h n) 64)).alloc (.cells (trC (zeros 32) 0) 64)).drew w.heap.size (trC h n) := ((RowIs.new _ _ _).alloc _).drew
  have R6 : RowIs ((w.alloc (.cells (trC h n) 64)).alloc (.cells (trC (zeros 32) 0) 64)).drew (w.heap.size + 1) (trC (zeros 32) 0) := (RowIs.new' (by simp)).drew
  have hsz0 : w.heap.size + 2 ≤ ((w.alloc (.cells (trC h n) 64)).alloc (.cells (trC (zeros 32) 0) 64)).drew.heap.size := by simp
  replace hm := hm.step hB; replace he := he.step hB; replace hb := hb.step hB
  have hgl0 := hm.lt
  go_enter Tryd.func45, Tryd.ntmps45
  go_wp2_with fail
  refine wp_region_F [2] [4, 13] [0, 3, 4, 5, 1, 2, 6, 7, 8, 9, 10, 11, 12, 13, 14, 15, 16] 6 (TrRow w.heap.size h n) (by kernel_rfl) (by decide +kernel) RT (fun _ => ?_)
  generalize ((w.alloc (.cells (trC h n) 64)).alloc (.cells (trC (zeros 32) 0) 64)).drew = x0 at hm he hb hB RT R6 hsz0 hgl0 ⊢

  (go_wp2_with (first | (refine wpIF_here rfl ?_) | (refine wpIF_pure (by decide) rfl rfl rfl (fun _ _ => ?_); go_simp; refine ⟨_, fun w9 hw9 => (by have s1 := hw9.num hh; go_simp; rfl), ?_⟩) | (refine wpIF_pure0 (by decide) rfl rfl rfl (fun _ _ => ?_); go_simp; try go_bits)))
  refine wpIF_loud [1, 2, 7, 8, 9, 10, 11, 12, 13, 14, 15, 16] (by decide) (show (1 : Nat) ≠ 6 by decide) rfl rfl rfl (fun KL hKL => ?_) (fun KL hKL => ?_)
  · have hex := And.intro he.rounds.lt he.start.lt
    go_wp2_with fail
    have hs : Below x0.heap.size x0 (x0.alloc (.cells #[.int .u8 110, .int .u8 101, .int .u8 120, .int .u8 116] 5)) := (by repeat (first | with_reducible exact Below.refl _ _ | with_reducible assumption | refine Below.drew ?_ | refine below_drewN ?_ | refine Below.alloc ?_ (by first | omega | (simp; done) | (simp; omega)) _ | refine below_setRow ?_ (by omega) _ | refine Below.setCell ?_ (by first | omega | (simp; done) | (simp; omega)) _))
    have hgk := hgl0
    have hwk := hsz0
    replace RT := RT.step hs
    replace R6 := R6.step hs
    replace hm := hm.step hs
    replace he := he.step hs
    replace hb := hb.step hs
    replace hgl0 := Nat.lt_of_lt_of_le hgl0 hs.size
    replace hB := hB.trans (hs.mono (by omega))
    replace hsz0 := Nat.le_trans hsz0 hs.size
    have RL : RowIs (x0.alloc (.cells #[.int .u8 110, .int .u8 101, .int .u8 120, .int .u8 116] 5)) x0.heap.size (u8s [110, 101, 120, 116]) := (by rw [show u8s [110, 101, 120, 116] = #[.int .u8 110, .int .u8 101, .int .u8 120, .int .u8 116] by simp [u8s_def, n8_def]]; exact RowIs.new _ _ _)
    refine hKL _ _ RT (fun _ => ?_)
    clear hs
    obtain ⟨k, hk⟩ : ∃ k, k = x0.heap.size := ⟨_, rfl⟩
    generalize x0.alloc (.cells #[.int .u8 110, .int .u8 101, .int .u8 120, .int .u8 116] 5) = x1 at RT R6 hm he hb hsz0 hgl0 hB RL ⊢
    rw [← hk] at RL hgk hwk ⊢
    have hek : 0 < k ∧ 1 < k := (by rw [hk]; exact hex)
    clear hk
    (go_wp2_with (first | (refine wpIF_here rfl ?_) | (refine wpIF_pure (by decide) rfl rfl rfl (fun _ _ => ?_); go_simp; refine ⟨_, fun w9 hw9 => (by have s1 := hw9.num hh; go_simp; rfl), ?_⟩) | (refine wpIF_pure0 (by decide) rfl rfl rfl (fun _ _ => ?_); go_simp; try go_bits)))
    refine wpIF_loud [2, 7, 8, 9, 10, 11, 12, 13, 14, 15, 16] (by decide) (show (2 : Nat) ≠ 6 by decide) rfl rfl rfl (fun KL hKL => ?_) (fun KL hKL => ?_)
    · obtain ⟨x2, hcv, hL, hu1, hcl⟩ := conv_mark (n := 4) (c := 4) RL rfl (Nat.le_refl _) (by omega)
      go_wp2_with fail
      replace RT := RT.upd hu1 (by omega)
      replace R6 := R6.upd hu1 (by omega)
      replace hm := hm.upd hu1 (by omega)
      replace he : ShaEnv _ := ⟨he.rounds.upd hu1 (by omega), he.start.upd hu1 (by omega)⟩
      replace hb := hb.cells hcl hu1.size
      replace hB := hu1.below hB (by omega) (by omega)
      replace hgl0 := Nat.lt_of_lt_of_le hgl0 hu1.size
      replace hsz0 := Nat.le_trans hsz0 hu1.size
      refine hKL _ _ RT (fun _ => ?_)
      clear hcv hu1 RL hcl
      (go_wp2_with (first | (refine wpIF_here rfl ?_) | (refine wpIF_pure (by decide) rfl rfl rfl (fun _ _ => ?_); go_simp; refine ⟨_, fun w9 hw9 => (by have s1 := hw9.num hh; go_simp; rfl), ?_⟩) | (refine wpIF_pure0 (by decide) rfl rfl rfl (fun _ _ => ?_); go_simp; try go_bits)))
      (go_wp2_with (first | (refine wpI_nil ?_) | (refine wpI_pure rfl rfl (fun _ _ => ?_); go_simp; refine ⟨_, fun w9 hw9 => (by have s1 := hw9.num hh; go_simp; rfl), ?_⟩) | (refine wpI_pure0 rfl rfl (fun _ _ => ?_); go_simp; try go_bits) | (refine wpI_loud rfl rfl (fun KL hKL => ?_))))
      refine (HH.out _).mono ?_
      rintro e x3 ⟨vH, rfl, hvH, hs⟩
      obtain ⟨AH, cH, rfl, -, -, -⟩ := id hvH
      rw [hHl] at hvH ⊢
      replace RT := RT.step hs
      replace R6 := R6.step hs
      replace hm := hm.step hs
      replace he := he.step hs
      replace hb := hb.step hs
      replace hgl0 := Nat.lt_of_lt_of_le hgl0 hs.size
      replace hB := hB.trans (hs.mono (by omega))
      replace hsz0 := Nat.le_trans hsz0 hs.size
      replace hL := hL.step hs
      go_wp2_with fail
      refine hKL _ _ RT (fun _ => ?_)
      clear hs
      (go_wp2_with (first | (refine wpI_nil ?_) | (refine wpI_pure rfl rfl (fun _ _ => ?_); go_simp; refine ⟨_, fun w9 hw9 => (by have s1 := hw9.num hh; go_simp; rfl), ?_⟩) | (refine wpI_pure0 rfl rfl (fun _ _ => ?_); go_simp; try go_bits) | (refine wpI_loud rfl rfl (fun KL hKL => ?_))))
      have hLL := BsL.lit4 (gg := x3.heap.size) 27 rfl hL hvH (TrRow.head RT hh) hb
      have hs : Below x3.heap.size x3 (x3.alloc (.cells #[.slice (some ⟨k, 0, none⟩) 4 4, .slice AH 8 cH, .slice (some ⟨w.heap.size, 0, none⟩) 32 32, .slice A1 nb c1] 27)) := (by repeat (first | with_reducible exact Below.refl _ _ | with_reducible assumption | refine Below.drew ?_ | refine below_drewN ?_ | refine Below.alloc ?_ (by first | omega | (simp; done) | (simp; omega)) _ | refine below_setRow ?_ (by omega) _ | refine Below.setCell ?_ (by first | omega | (simp; done) | (simp; omega)) _))
      replace RT := RT.step hs
      replace R6 := R6.step hs
      replace hm := hm.step hs
      replace he := he.step hs
      replace hB := hB.trans (hs.mono (by omega))
      refine hKL _ _ RT (fun _ => ?_)
      clear hs hL hvH hb
      (go_wp2_with (first | (refine wpI_nil ?_) | (refine wpI_pure rfl rfl (fun _ _ => ?_); go_simp; refine ⟨_, fun w9 hw9 => (by have s1 := hw9.num hh; go_simp; rfl), ?_⟩) | (refine wpI_pure0 rfl rfl (fun _ _ => ?_); go_simp; try go_bits) | (refine wpI_loud rfl rfl (fun KL hKL => ?_))))
      refine (MM.out _ _ hm hLL he).mono ?_
      rintro e z ⟨rfl, hm3, hu3⟩
      replace RT := RT.upd hu3 (by omega)
      replace R6 := R6.upd hu3 (by omega)
      have hu := (Upd.of (g := g) hB).trans hu3
      clear hLL hm he hB hu3
      have hbld := trBuild2 D hDl (n + 1)
      go_wp2_with fail
      refine hKL _ _ RT (fun _ => ?_)
      have hr6 := R6.lt
      have hst := trStore z (w.heap.size + 1) (trC D (n + 1)) (by rw [R6.has, trC_size _ (zeros_length 32)]) (trC_size D hDl _) (trC_one D _)
      (go_wp2_with (first | (refine wpI_nil ?_) | (refine wpI_pure rfl rfl (fun _ _ => ?_); go_simp; refine ⟨_, fun w9 hw9 => (by have s1 := hw9.num hh; go_simp; rfl), ?_⟩) | (refine wpI_pure0 rfl rfl (fun _ _ => ?_); go_simp; try go_bits) | (refine wpI_loud rfl rfl (fun KL hKL => ?_))))
      refine hKL _ _ (RowIs.set_ne RT (show w.heap.size ≠ w.heap.size + 1 by omega) _) (fun _ => ?_)
      replace R6 := R6.set (trC D (n + 1))
      have hr7 := R6.has; have hr8 := R6.row; have hr9 := R6.lt
      (go_wp2_with (first | (refine wpI_nil ?_) | (refine wpI_pure rfl rfl (fun _ _ => ?_); go_simp; refine ⟨_, fun w9 hw9 => (by have s1 := hw9.num hh; go_simp; rfl), ?_⟩) | (refine wpI_pure0 rfl rfl (fun _ _ => ?_); go_simp; try go_bits) | (refine wpI_loud rfl rfl (fun KL hKL => ?_))))
      go_wp2_with fail
      refine bodyPost_retRow 6 _ (w.heap.size + 1) 33 rfl rfl (by omega) (by kernel_rfl) (by kernel_rfl) ?_ rfl ?_
      · rw [R6.has, trC_size D hDl]
      · rw [R6.has]
        obtain ⟨i, h0, h1, h2⟩ := hm3
        exact ⟨rfl, ⟨i, h0, h1, RowIs.set_ne h2 (by omega) _⟩, hu.setRow (by omega) _⟩
    · go_wp2_with fail
      refine (HH.out _).mono ?_
      rintro e x4 ⟨vH, rfl, hvH, hs⟩
      obtain ⟨AH, cH, rfl, -, -, -⟩ := id hvH
      rw [hHl] at hvH ⊢
      replace RT := RT.step hs
      replace R6 := R6.step hs
      replace hm := hm.step hs
      replace he := he.step hs
      replace hb := hb.step hs
      replace hgl0 := Nat.lt_of_lt_of_le hgl0 hs.size
      replace hB := hB.trans (hs.mono (by omega))
      replace hsz0 := Nat.le_trans hsz0 hs.size
      replace RL := RL.step hs
      go_wp2_with fail
      refine hKL _ _ RT (fun _ => ?_)
      clear hs
      refine wpI_loud rfl rfl (fun KL hKL => ?_)
      obtain ⟨x5, hcv, hL, hu1, hcl⟩ := conv_mark (n := 4) (c := 4) RL rfl (Nat.le_refl _) (by omega)
      go_wp2_with fail
      replace RT := RT.upd hu1 (by omega)
      replace R6 := R6.upd hu1 (by omega)
      replace hm := hm.upd hu1 (by omega)
      replace he : ShaEnv _ := ⟨he.rounds.upd hu1 (by omega), he.start.upd hu1 (by omega)⟩
      replace hb := hb.cells hcl hu1.size
      replace hB := hu1.below hB (by omega) (by omega)
      replace hgl0 := Nat.lt_of_lt_of_le hgl0 hu1.size
      replace hsz0 := Nat.le_trans hsz0 hu1.size
      replace hvH := hvH.cells hcl hu1.size
      refine hKL _ _ RT (fun _ => ?_)
      clear hcv hu1 RL hcl
      (go_wp2_with (first | (refine wpI_nil ?_) | (refine wpI_pure rfl rfl (fun _ _ => ?_); go_simp; refine ⟨_, fun w9 hw9 => (by have s1 := hw9.num hh; go_simp; rfl), ?_⟩) | (refine wpI_pure0 rfl rfl (fun _ _ => ?_); go_simp; try go_bits) | (refine wpI_loud rfl rfl (fun KL hKL => ?_))))
      have hLL := BsL.lit4 (gg := x5.heap.size) 27 rfl hL hvH (TrRow.head RT hh) hb
      have hs : Below x5.heap.size x5 (x5.alloc (.cells #[.slice (some ⟨k, 0, none⟩) 4 4, .slice AH 8 cH, .slice (some ⟨w.heap.size, 0, none⟩) 32 32, .slice A1 nb c1] 27)) := (by repeat (first | with_reducible exact Below.refl _ _ | with_reducible assumption | refine Below.drew ?_ | refine below_drewN ?_ | refine Below.alloc ?_ (by first | omega | (simp; done) | (simp; omega)) _ | refine below_setRow ?_ (by omega) _ | refine Below.setCell ?_ (by first | omega | (simp; done) | (simp; omega)) _))
      replace RT := RT.step hs
      replace R6 := R6.step hs
      replace hm := hm.step hs
      replace he := he.step hs
      replace hB := hB.trans (hs.mono (by omega))
      refine hKL _ _ RT (fun _ => ?_)
      clear hs hL hvH hb
      (go_wp2_with (first | (refine wpI_nil ?_) | (refine wpI_pure rfl rfl (fun _ _ => ?_); go_simp; refine ⟨_, fun w9 hw9 => (by have s1 := hw9.num hh; go_simp; rfl), ?_⟩) | (refine wpI_pure0 rfl rfl (fun _ _ => ?_); go_simp; try go_bits) | (refine wpI_loud rfl rfl (fun KL hKL => ?_))))
      refine (MM.out _ _ hm hLL he).mono ?_
      rintro e z ⟨rfl, hm3, hu3⟩
      replace RT := RT.upd hu3 (by omega)
      replace R6 := R6.upd hu3 (by omega)
      have hu := (Upd.of (g := g) hB).trans hu3
      clear hLL hm he hB hu3
      have hbld := trBuild2 D hDl (n + 1)
      go_wp2_with fail
      refine hKL _ _ RT (fun _ => ?_)
      have hr6 := R6.lt
      have hst := trStore z (w.heap.size + 1) (trC D (n + 1)) (by rw [R6.has, trC_size _ (zeros_length 32)]) (trC_size D hDl _) (trC_one D _)
      (go_wp2_with (first | (refine wpI_nil ?_) | (refine wpI_pure rfl rfl (fun _ _ => ?_); go_simp; refine ⟨_, fun w9 hw9 => (by have s1 := hw9.num hh; go_simp; rfl), ?_⟩) | (refine wpI_pure0 rfl rfl (fun _ _ => ?_); go_simp; try go_bits) | (refine wpI_loud rfl rfl (fun KL hKL => ?_))))
      refine hKL _ _ (RowIs.set_ne RT (show w.heap.size ≠ w.heap.size + 1 by omega) _) (fun _ => ?_)
      replace R6 := R6.set (trC D (n + 1))
      have hr7 := R6.has; have hr8 := R6.row; have hr9 := R6.lt
      (go_wp2_with (first | (refine wpI_nil ?_) | (refine wpI_pure rfl rfl (fun _ _ => ?_); go_simp; refine ⟨_, fun w9 hw9 => (by have s1 := hw9.num hh; go_simp; rfl), ?_⟩) | (refine wpI_pure0 rfl rfl (fun _ _ => ?_); go_simp; try go_bits) | (refine wpI_loud rfl rfl (fun KL hKL => ?_))))
      go_wp2_with fail
      refine bodyPost_retRow 6 _ (w.heap.size + 1) 33 rfl rfl (by omega) (by kernel_rfl) (by kernel_rfl) ?_ rfl ?_
      · rw [R6.has, trC_size D hDl]
      · rw [R6.has]
        obtain ⟨i, h0, h1, h2⟩ := hm3
        exact ⟨rfl, ⟨i, h0, h1, RowIs.set_ne h2 (by omega) _⟩, hu.setRow (by omega) _⟩
  · go_wp2_with fail
    refine (HH.out _).mono ?_
    rintro e x6 ⟨vH, rfl, hvH, hs⟩
    obtain ⟨AH, cH, rfl, -, -, -⟩ := id hvH
    rw [hHl] at hvH ⊢
    replace RT := RT.step hs
    replace R6 := R6.step hs
    replace hm := hm.step hs
    replace he := he.step hs
    replace hb := hb.step hs
    replace hgl0 := Nat.lt_of_lt_of_le hgl0 hs.size
    replace hB := hB.trans (hs.mono (by omega))
    replace hsz0 := Nat.le_trans hsz0 hs.size
    go_wp2_with fail
    refine hKL _ _ RT (fun _ => ?_)
    clear hs
    (go_wp2_with (first | (refine wpI_nil ?_) | (refine wpI_pure rfl rfl (fun _ _ => ?_); go_simp; refine ⟨_, fun w9 hw9 => (by have s1 := hw9.num hh; go_simp; rfl), ?_⟩) | (refine wpI_pure0 rfl rfl (fun _ _ => ?_); go_simp; try go_bits) | (refine wpI_loud rfl rfl (fun KL hKL => ?_))))
    have hex := And.intro he.rounds.lt he.start.lt
    go_wp2_with fail
    have hs : Below x6.heap.size x6 (x6.alloc (.cells #[.int .u8 110, .int .u8 101, .int .u8 120, .int .u8 116] 5)) := (by repeat (first | with_reducible exact Below.refl _ _ | with_reducible assumption | refine Below.drew ?_ | refine below_drewN ?_ | refine Below.alloc ?_ (by first | omega | (simp; done) | (simp; omega)) _ | refine below_setRow ?_ (by omega) _ | refine Below.setCell ?_ (by first | omega | (simp; done) | (simp; omega)) _))
    have hgk := hgl0
    have hwk := hsz0
    replace RT := RT.step hs
    replace R6 := R6.step hs
    replace hm := hm.step hs
    replace he := he.step hs
    replace hb := hb.step hs
    replace hgl0 := Nat.lt_of_lt_of_le hgl0 hs.size
    replace hB := hB.trans (hs.mono (by omega))
    replace hsz0 := Nat.le_trans hsz0 hs.size
    replace hvH := hvH.step hs
    have RL : RowIs (x6.alloc (.cells #[.int .u8 110, .int .u8 101, .int .u8 120, .int .u8 116] 5)) x6.heap.size (u8s [110, 101, 120, 116]) := (by rw [show u8s [110, 101, 120, 116] = #[.int .u8 110, .int .u8 101, .int .u8 120, .int .u8 116] by simp [u8s_def, n8_def]]; exact RowIs.new _ _ _)
    refine hKL _ _ RT (fun _ => ?_)
    clear hs
    obtain ⟨k, hk⟩ : ∃ k, k = x6.heap.size := ⟨_, rfl⟩
    generalize x6.alloc (.cells #[.int .u8 110, .int .u8 101, .int .u8 120, .int .u8 116] 5) = x7 at RT R6 hm he hb hsz0 hgl0 hB RL hvH ⊢
    rw [← hk] at RL hgk hwk ⊢
    have hek : 0 < k ∧ 1 < k := (by rw [hk]; exact hex)
    clear hk
    refine wpI_loud rfl rfl (fun KL hKL => ?_)
    obtain ⟨x8, hcv, hL, hu1, hcl⟩ := conv_mark (n := 4) (c := 4) RL rfl (Nat.le_refl _) (by omega)
    go_wp2_with fail
    replace RT := RT.upd hu1 (by omega)
    replace R6 := R6.upd hu1 (by omega)
    replace hm := hm.upd hu1 (by omega)
    replace he : ShaEnv _ := ⟨he.rounds.upd hu1 (by omega), he.start.upd hu1 (by omega)⟩
    replace hb := hb.cells hcl hu1.size
    replace hB := hu1.below hB (by omega) (by omega)
    replace hgl0 := Nat.lt_of_lt_of_le hgl0 hu1.size
    replace hsz0 := Nat.le_trans hsz0 hu1.size
    replace hvH := hvH.cells hcl hu1.size
    refine hKL _ _ RT (fun _ => ?_)
    clear hcv hu1 RL hcl
    (go_wp2_with (first | (refine wpI_nil ?_) | (refine wpI_pure rfl rfl (fun _ _ => ?_); go_simp; refine ⟨_, fun w9 hw9 => (by have s1 := hw9.num hh; go_simp; rfl), ?_⟩) | (refine wpI_pure0 rfl rfl (fun _ _ => ?_); go_simp; try go_bits) | (refine wpI_loud rfl rfl (fun KL hKL => ?_))))
    have hLL := BsL.lit4 (gg := x8.heap.size) 27 rfl hL hvH (TrRow.head RT hh) hb
    have hs : Below x8.heap.size x8 (x8.alloc (.cells #[.slice (some ⟨k, 0, none⟩) 4 4, .slice AH 8 cH, .slice (some ⟨w.heap.size, 0, none⟩) 32 32, .slice A1 nb c1] 27)) := (by repeat (first | with_reducible exact Below.refl _ _ | with_reducible assumption | refine Below.drew ?_ | refine below_drewN ?_ | refine Below.alloc ?_ (by first | omega | (simp; done) | (simp; omega)) _ | refine below_setRow ?_ (by omega) _ | refine Below.setCell ?_ (by first | omega | (simp; done) | (simp; omega)) _))
    replace RT := RT.step hs
    replace R6 := R6.step hs
    replace hm := hm.step hs
    replace he := he.step hs
    replace hB := hB.trans (hs.mono (by omega))
    refine hKL _ _ RT (fun _ => ?_)
    clear hs hL hvH hb
    (go_wp2_with (first | (refine wpI_nil ?_) | (refine wpI_pure rfl rfl (fun _ _ => ?_); go_simp; refine ⟨_, fun w9 hw9 => (by have s1 := hw9.num hh; go_simp; rfl), ?_⟩) | (refine wpI_pure0 rfl rfl (fun _ _ => ?_); go_simp; try go_bits) | (refine wpI_loud rfl rfl (fun KL hKL => ?_))))
    refine (MM.out _ _ hm hLL he).mono ?_
    rintro e z ⟨rfl, hm3, hu3⟩
    replace RT := RT.upd hu3 (by omega)
    replace R6 := R6.upd hu3 (by omega)
    have hu := (Upd.of (g := g) hB).trans hu3
    clear hLL hm he hB hu3
    have hbld := trBuild2 D hDl (n + 1)
    go_wp2_with fail
    refine hKL _ _ RT (fun _ => ?_)
    have hr6 := R6.lt
    have hst := trStore z (w.heap.size + 1) (trC D (n + 1)) (by rw [R6.has, trC_size _ (zeros_length 32)]) (trC_size D hDl _) (trC_one D _)
    (go_wp2_with (first | (refine wpI_nil ?_) | (refine wpI_pure rfl rfl (fun _ _ => ?_); go_simp; refine ⟨_, fun w9 hw9 => (by have s1 := hw9.num hh; go_simp; rfl), ?_⟩) | (refine wpI_pure0 rfl rfl (fun _ _ => ?_); go_simp; try go_bits) | (refine wpI_loud rfl rfl (fun KL hKL => ?_))))
    refine hKL _ _ (RowIs.set_ne RT (show w.heap.size ≠ w.heap.size + 1 by omega) _) (fun _ => ?_)
    replace R6 := R6.set (trC D (n + 1))
    have hr7 := R6.has; have hr8 := R6.row; have hr9 := R6.lt
    (go_wp2_with (first | (refine wpI_nil ?_) | (refine wpI_pure rfl rfl (fun _ _ => ?_); go_simp; refine ⟨_, fun w9 hw9 => (by have s1 := hw9.num hh; go_simp; rfl), ?_⟩) | (refine wpI_pure0 rfl rfl (fun _ _ => ?_); go_simp; try go_bits) | (refine wpI_loud rfl rfl (fun KL hKL => ?_))))
    go_wp2_with fail
    refine bodyPost_retRow 6 _ (w.heap.size + 1) 33 rfl rfl (by omega) (by kernel_rfl) (by kernel_rfl) ?_ rfl ?_
    · rw [R6.has, trC_size D hDl]
    · rw [R6.has]
      obtain ⟨i, h0, h1, h2⟩ := hm3
      exact ⟨rfl, ⟨i, h0, h1, RowIs.set_ne h2 (by omega) _⟩, hu.setRow (by omega) _⟩
end
section
open Go.RowKit
attribute [local go_sem ↓] xtrBuild xtrLoad xtrStore
attribute [local go_sem] trZ trC_size trC_one
def trK (h : List UInt8) (n : UInt32) (ls : List (List UInt8)) : Nat → List UInt8 × UInt32
  | 0 => (h, n)
  | k + 1 => (nextB (trK h n ls k).1 (trK h n ls k).2 (nthL ls k), (trK h n ls k).2 + 1)
theorem trK_len (h : List UInt8) (hh : h.length = 32) (n : UInt32) (ls : List (List UInt8)) : ∀ k, (trK h n ls k).1.length = 32
  | 0 => hh
  | k + 1 => by rw [trK]; exact nextB_length _ _ _
theorem MetB.setRow_ne {w : World} {g k : Nat} {N : Int} (h : MetB w g N) (hk : g ≠ k) (cs : Array Value) : MetB (w.setRow k cs) g N := by obtain ⟨n, h0, h1, h2⟩ := h; exact ⟨n, h0, h1, RowIs.set_ne h2 hk _⟩
set_option maxRecDepth 100000 in
set_option maxHeartbeats 1600000 in
theorem tfold_any (g : Nat) (N : Int) (h : List UInt8) (hh : h.length = 32) (n : UInt32) (vl : Value) (ls : List (List UInt8)) (w : World) (hm : MetB w g N) (he : ShaEnv w) (hr : BsLx g w vl ls) (hl : ls.length ≤ 1000) (hle : ∀ k, k < ls.length → (nthL ls k).length ≤ 2000000) (hN : N ≤ 800000) :
    Calls Tryd.prog 85 #[.agg (trC h n), .pointer (some ⟨g, 0, none⟩), vl, .func (.func 45) #[] #[]] w (TrRes g (N + ls.length) (trK h n ls ls.length).1 (trK h n ls ls.length).2 w) := by
  have HLE := Lib.hid hle
  have HR := Lib.hid hr
  obtain ⟨Al, cl, rfl, hc, hl140, -⟩ := id hr
  obtain ⟨ln, hln⟩ : ∃ ln, ln = ls.length := ⟨_, rfl⟩
  have HLN := Lib.hid hln
  rw [← hln] at hl hl140 hc ⊢
  clear hln hle hr
  have hgl := hm.lt
  have hno := hm.no8
  have henv := And.intro he.rounds.lt he.start.lt
  have hB : Below w.heap.size w ((w.alloc (.cells (trC h n) 64)).alloc (.cells (trC (zeros 32) 0) 64)) := (by repeat (first | with_reducible exact Below.refl _ _ | with_reducible assumption | refine Below.drew ?_ | refine below_drewN ?_ | refine Below.alloc ?_ (by first | omega | (simp; done) | (simp; omega)) _ | refine below_setRow ?_ (by omega) _ | refine Below.setCell ?_ (by first | omega | (simp; done) | (simp; omega)) _))
  have RT : RowIs ((w.alloc (.cells (trC h n) 64)).alloc (.cells (trC (zeros 32) 0) 64)) w.heap.size (trC h n) := (RowIs.new _ _ _).alloc _
  have R8 : RowIs ((w.alloc (.cells (trC h n) 64)).alloc (.cells (trC (zeros 32) 0) 64)) (w.heap.size + 1) (trC (zeros 32) 0) := RowIs.new' (by simp)
  go_enter Tryd.func85, Tryd.ntmps85
  go_wp2_with fail
  go_loopw [10, 13] (fun _ i wr => ∃ k : Nat, i = .int .i64 k ∧ k ≤ ln ∧ RowIs wr w.heap.size (trC (trK h n ls k).1 (trK h n ls k).2) ∧ RowIs wr (w.heap.size + 1) (trC (zeros 32) 0) ∧ MetB wr g (N + k) ∧ ShaEnv wr ∧ Upd g w wr) (fun _ i _ => ln - (intOf i).toNat)
  case atStart => exact ⟨0, rfl, by omega, RT, R8, (hm.step hB).mono (by omega), he.step hB, Upd.of hB⟩
  case round =>
    clear RT R8 hm he hB
    obtain ⟨k, rfl, hk, RT, R8, hm, he, hU⟩ := hrel
    obtain ⟨hk', hhk⟩ : ∃ x, x = (trK h n ls k).1 := ⟨_, rfl⟩
    obtain ⟨nk, hnk⟩ : ∃ x, x = (trK h n ls k).2 := ⟨_, rfl⟩
    have hlen : hk'.length = 32 := by rw [hhk]; exact trK_len h hh n ls k
    rw [← hhk, ← hnk] at RT
    by_cases hlt : k < ln
    · have hlt' : k < ls.length := by rw [← HLN.out]; exact hlt
      obtain ⟨A5, c5, e5, -, -, hrd0⟩ := (HR.out.upd hU hno)
      obtain ⟨bl, ol, rfl, hbg, hrd⟩ := hrd0 (by omega)
      obtain ⟨rfl, -, rfl⟩ : Al = some ⟨bl, ol, none⟩ ∧ ln = ls.length ∧ cl = c5 := by injection e5 with q1 q2 q3; exact ⟨q1, HLN.out, q3⟩
      obtain ⟨vb, hcell, hbs⟩ := hrd.2 k hlt'
      have hm1 := HLE.out k hlt'
      have hnx : nextB hk' nk (nthL ls k) = (trK h n ls (k + 1)).1 := by rw [trK, hhk, hnk]
      have hnx2 : nk + 1 = (trK h n ls (k + 1)).2 := by rw [trK, hnk]
      have cc := tnext_any g (N + k) hk' hlen nk vb (nthL ls k) wr hm he hbs hm1 (by omega)
      rw [hnx, hnx2] at cc
      have CC := Lib.hid cc
      have hlen2 := trK_len h hh n ls (k + 1)
      obtain ⟨h2, hh2⟩ : ∃ x, x = (trK h n ls (k + 1)).1 := ⟨_, rfl⟩
      obtain ⟨n2, hn2⟩ : ∃ x, x = (trK h n ls (k + 1)).2 := ⟨_, rfl⟩
      rw [← hh2, ← hn2] at CC
      rw [← hh2] at hlen2
      have HH2 := Lib.hid hh2; have HN2 := Lib.hid hn2
      obtain ⟨Ab, cb, rfl, -, -, -⟩ := id hbs
      obtain ⟨mb, hmb⟩ : ∃ x, x = (nthL ls k).length := ⟨_, rfl⟩
      rw [← hmb] at hcell CC
      have hk0 : (0 : Int) ≤ (k : Int) := by omega
      have hk1 : (k : Int) < ln := by omega
      have hL1 := trload RT hlen
      have hsz := hU.size
      clear cc hnx hnx2 hh2 hn2 hmb e5 hrd0 hrd hbs hhk hnk
      go_wp2_with fail
      refine CC.out.mono ?_
      rintro e w1 ⟨rfl, hm1', hu1⟩
      have hbw : w.heap.size ≠ g := by omega
      replace RT := RT.upd hu1 hbw
      replace R8 := R8.upd hu1 (by omega)
      replace he := hm.env he hu1
      replace hU := hU.trans hu1
      have hst := trStore w1 w.heap.size (trC h2 n2) (by rw [RT.has, trC_size _ hlen]) (trC_size h2 hlen2 _) (trC_one h2 _)
      clear hm hu1 CC hL1 hcell
      go_wp2_with fail
      exact ⟨⟨k + 1, by go_num, by omega, by rw [← HH2.out, ← HN2.out]; exact RT.set _, R8.set_ne (by omega) _, (hm1'.setRow_ne (Ne.symm hbw) _).mono (by omega), ⟨he.rounds.set_ne (Nat.ne_of_lt henv.1) _, he.start.set_ne (Nat.ne_of_lt henv.2) _⟩, hU.setRow (Nat.le_refl _) _⟩, by simp [intOf]; omega⟩
    · have ek : k = ln := by omega
      subst ek
      have HHK := Lib.hid hhk; have HNK := Lib.hid hnk
      rw [← hhk, ← hnk]
      clear hhk hnk
      have hL1 := trload RT hlen
      have hst := trStore wr (w.heap.size + 1) (trC hk' nk) (by rw [R8.has, trC_size _ (zeros_length 32)]) (trC_size hk' hlen _) (trC_one hk' _)
      have R9 := R8.set (trC hk' nk)
      have hr1 := R9.has; have hr2 := R9.row; have hr3 := R9.lt
      have hsz := hU.size
      go_wp2_with fail
      refine bodyPost_retRow 8 _ (w.heap.size + 1) 33 rfl rfl (by omega) (by kernel_rfl) (by kernel_rfl) ?_ rfl ?_
      · rw [R9.has, trC_size hk' hlen]
      · exact ⟨by rw [R9.has, ← HHK.out, ← HNK.out], hm.setRow_ne (by omega) _, hU.setRow (by omega) _⟩
set_option maxRecDepth 100000 in
set_option maxHeartbeats 1600000 in
theorem tall_any (g : Nat) (N : Int) (h : List UInt8) (hh : h.length = 32) (n : UInt32) (vl : Value) (ls : List (List UInt8)) (w : World) (hm : MetB w g N) (he : ShaEnv w) (hr : BsLx g w vl ls) (hl : ls.length ≤ 1000) (hle : ∀ k, k < ls.length → (nthL ls k).length ≤ 2000000) (hN : N ≤ 800000) :
    Calls Tryd.prog 44 #[.agg (trC h n), .pointer (some ⟨g, 0, none⟩), vl] w (TrRes g (N + ls.length) (trK h n ls ls.length).1 (trK h n ls ls.length).2 w) := by
  have cc := fun (w : World) h1 h2 h3 => tfold_any g N h hh n vl ls w h1 h2 h3 hl hle hN
  have hlen := trK_len h hh n ls ls.length
  obtain ⟨h2, hh2⟩ : ∃ x, x = (trK h n ls ls.length).1 := ⟨_, rfl⟩
  obtain ⟨n2, hn2⟩ : ∃ x, x = (trK h n ls ls.length).2 := ⟨_, rfl⟩
  obtain ⟨M, hM⟩ : ∃ M, M = N + ls.length := ⟨_, rfl⟩
  rw [← hh2, ← hn2, ← hM] at cc ⊢
  rw [← hh2] at hlen
  have CC := Lib.hid cc
  obtain ⟨Al, cl, rfl, -, -, -⟩ := id hr
  obtain ⟨ln, hln⟩ : ∃ ln, ln = ls.length := ⟨_, rfl⟩
  rw [← hln] at hr CC ⊢
  clear cc hh2 hn2 hM hln
  have hgl := hm.lt
  have hB : Below w.heap.size w ((w.alloc (.cells (trC h n) 64)).alloc (.cells (trC (zeros 32) 0) 64)) := (by repeat (first | with_reducible exact Below.refl _ _ | with_reducible assumption | refine Below.drew ?_ | refine below_drewN ?_ | refine Below.alloc ?_ (by first | omega | (simp; done) | (simp; omega)) _ | refine below_setRow ?_ (by omega) _ | refine Below.setCell ?_ (by first | omega | (simp; done) | (simp; omega)) _))
  have RT : RowIs ((w.alloc (.cells (trC h n) 64)).alloc (.cells (trC (zeros 32) 0) 64)) w.heap.size (trC h n) := (RowIs.new _ _ _).alloc _
  have R6 : RowIs ((w.alloc (.cells (trC h n) 64)).alloc (.cells (trC (zeros 32) 0) 64)) (w.heap.size + 1) (trC (zeros 32) 0) := RowIs.new' (by simp)
  have hL1 := trload RT hh
  go_enter Tryd.func44, Tryd.ntmps44
  go_wp2_with fail
  refine (CC.out _ (hm.step hB) (he.step hB) (hr.step hB)).mono ?_
  rintro e w1 ⟨rfl, hm1, hu1⟩
  replace R6 := R6.upd hu1 (by omega)
  have hU := (Upd.of (g := g) hB).trans hu1
  have hst := trStore w1 (w.heap.size + 1) (trC h2 n2) (by rw [R6.has, trC_size _ (zeros_length 32)]) (trC_size h2 hlen _) (trC_one h2 _)
  have R9 := R6.set (trC h2 n2)
  have hr1 := R9.has; have hr2 := R9.row; have hr3 := R9.lt
  clear hr hm he hB hu1 hL1 RT
  go_wp2_with fail
  refine bodyPost_retRow 6 _ (w.heap.size + 1) 33 rfl rfl (by omega) (by kernel_rfl) (by kernel_rfl) ?_ rfl ?_
  · rw [R9.has, trC_size h2 hlen]
  · exact ⟨by rw [R9.has], hm1.setRow_ne (by omega) _, hU.setRow (by omega) _⟩
end
end Go.Proofs.YtopmdbmnlflpgaaDoor
