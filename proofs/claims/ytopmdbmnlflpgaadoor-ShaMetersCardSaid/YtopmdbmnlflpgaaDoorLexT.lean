/- A region that draws its order, walked once in the order of the text under a condition S, where the last operation comes behind all others: S is not asked behind it. -/
import Derived.Test.YtopmdbmnlflpgaaDoorLexS
namespace Go.Proofs.YtopmdbmnlflpgaaDoor
section
variable {P : Program} {ops : Array Oper} {ex fz : List Nat} {S : World → Prop}
/-- the last operation, number n, comes behind all: till then every order; Q is what is asked ahead of it -/
def wpAnyT (P : Program) (ops : Array Oper) (ex fz : List Nat) (S : World → Prop) (n : Nat) (Q : Act → World → Prop) : Nat → Array Bool → Act → World → Prop
  | 0, listed, a, w => Region.ready .any ops listed = [n] ∧ Q a w
  | f + 1, listed, a, w => n ∉ Region.ready .any ops listed ∧ Region.ready .any ops listed ≠ [] ∧ ∀ i ∈ Region.ready .any ops listed, stepS P ops ex fz S i (wpAnyT P ops ex fz S n Q f (listed.setIfInBounds i true)) a w
theorem wpAny_of_T {n : Nat} {Q : Exit → Act → World → Prop} (hn : ∀ listed, Region.ready .any ops listed = [n] → Region.ready .any ops (listed.setIfInBounds n true) = []) :
    ∀ (f : Nat) (listed : Array Bool) (a : Act) (w : World), S w → wpAnyT P ops ex fz S n (fun a w => wpOp P ops Q n (Q .normal) a w) f listed a w → wpAny P .any ops Q (f + 1) listed a w
  | 0, listed, _, _, _, h => ⟨fun h' => (by rw [h.1] at h'; cases h'), fun i hi => by
      rw [h.1] at hi
      obtain rfl : i = n := by simpa using hi
      exact wpOp_mono (fun a w h' => ⟨hn listed h.1, h'⟩) h.2⟩
  | f + 1, _, _, _, hS, h => ⟨fun h' => absurd h' h.2.1, fun i hi => wpOp_mono (fun a w h' => wpAny_of_T hn f _ a w h'.1 h'.2) (stepR_wpOpS hS (h.2.2 i hi))⟩
theorem last_later {i n : Nat} (hlast : Waits ops i n ∨ reachB ops i n = true) {listed : Array Bool} (hc : Closed ops listed) (hr : i ∈ Region.ready .any ops listed) : n ∉ Region.ready .any ops listed := by
  have hiun := (mem_ready.1 hr).1
  rcases hlast with h | h
  · exact not_ready_of_waits hiun h
  · exact not_ready_of_reach hc (getD_of_ready hiun) h
/-! ### an operation that only reckons may be taken first -/
theorem R_first0T {n : Nat} {Q : Act → World → Prop} {i : Nat} {oi : Oper} {v : Value} (hi : ops[i]? = some oi) (hcl : clsS ex fz i oi = 0) (hlast : Waits ops i n ∨ reachB ops i n = true) (hsel : ∀ (j : Nat) (o : Oper) cs b, ops[j]? = some o → o.op ≠ .select cs b) :
    ∀ (f : Nat) (listed : Array Bool) (a : Act) (w : World), Closed ops listed →
      (∀ j oj, ops[j]? = some oj → j ≠ i → listed.getD j true = false → Waits ops i j ∨ reachB ops i j = true ∨ oi.apart ops oj = true) →
      i ∈ Region.ready .any ops listed → YieldsIf P ops S oi v a → wpAnyT P ops ex fz S n Q f (listed.setIfInBounds i true) (a.put oi.dst v) w → wpAnyT P ops ex fz S n Q (f + 1) listed a w := by
  intro f
  have at_i : ∀ {K : Act → World → Prop} {a : Act} {w : World}, YieldsIf P ops S oi v a → K (a.put oi.dst v) w → stepS P ops ex fz S i K a w := fun hy H => by
    unfold stepS; simp only [hi, hcl]; exact ⟨v, hy, H⟩
  induction f with
  | zero =>
    intro listed a w hc _ hr hy H
    have hnr := last_later hlast hc hr
    refine ⟨hnr, fun h => (by rw [h] at hr; cases hr), fun j hj => ?_⟩
    by_cases hji : j = i
    · subst hji; exact at_i hy H
    · have := ready_mono hj hji
      rw [H.1] at this
      exact absurd hj (by rw [List.mem_singleton.1 this]; exact hnr)
  | succ f ih =>
    intro listed a w hc hfree hr hy H
    have hnr := last_later hlast hc hr
    refine ⟨hnr, fun h => (by rw [h] at hr; cases hr), fun j hj => ?_⟩
    by_cases hji : j = i
    · subst hji; exact at_i hy H
    · have h1 := H.2.2 j (ready_mono hj hji)
      obtain ⟨hjun, oj, hoj, hall⟩ := mem_ready.1 hj
      have hiun := (mem_ready.1 hr).1
      have hap : oi.apart ops oj = true := by
        rcases hfree j oj hoj hji hjun with h | h | h
        · exact absurd hj (not_ready_of_waits hiun h)
        · exact absurd hj (not_ready_of_reach hc (getD_of_ready hiun) h)
        · exact h
      have h2 := stepR_put0S hoj hap (fun cs b => hsel i oi cs b hi) (fun cs b => hsel j oj cs b hoj) hy h1
      refine stepR_monoS (fun a' w' h3 => ih (listed.setIfInBounds j true) a' w' (hc.set hj) ?_ (ready_mono hr (Ne.symm hji)) h3.1 ?_) h2
      · intro k ok hk hki hun
        refine hfree k ok hk hki ?_
        by_cases hjk : j = k
        · subst hjk; exact hjun
        · rw [getD_set_ne true hjk] at hun; exact hun
      · rw [Array.setIfInBounds_comm _ _ hji]
        exact h3.2

/-! ### a load may be taken first, ahead of what only reckons and of other loads -/
theorem R_first1T {n : Nat} {Q : Act → World → Prop} {i : Nat} {oi : Oper} {v : Value} (hi : ops[i]? = some oi) (hcl : clsS ex fz i oi = 1) (hlast : Waits ops i n ∨ reachB ops i n = true) (hsel : ∀ (j : Nat) (o : Oper) cs b, ops[j]? = some o → o.op ≠ .select cs b) :
    ∀ (f : Nat) (listed : Array Bool) (a : Act) (w : World), Closed ops listed →
      (∀ j oj, ops[j]? = some oj → j ≠ i → listed.getD j true = false → Waits ops i j ∨ reachB ops i j = true ∨ (oi.apart ops oj = true ∧ (clsS ex fz j oj = 0 ∨ clsS ex fz j oj = 1))) →
      i ∈ Region.ready .any ops listed → ReadsAt P ops oi v a w → wpAnyT P ops ex fz S n Q f (listed.setIfInBounds i true) (a.put oi.dst v) w → wpAnyT P ops ex fz S n Q (f + 1) listed a w := by
  intro f
  have at_i : ∀ {K : Act → World → Prop} {a : Act} {w : World}, ReadsAt P ops oi v a w → K (a.put oi.dst v) w → stepS P ops ex fz S i K a w := fun hy H => by
    unfold stepS; simp only [hi, hcl]; exact ⟨v, hy, H⟩
  induction f with
  | zero =>
    intro listed a w hc _ hr hy H
    have hnr := last_later hlast hc hr
    refine ⟨hnr, fun h => (by rw [h] at hr; cases hr), fun j hj => ?_⟩
    by_cases hji : j = i
    · subst hji; exact at_i hy H
    · have := ready_mono hj hji
      rw [H.1] at this
      exact absurd hj (by rw [List.mem_singleton.1 this]; exact hnr)
  | succ f ih =>
    intro listed a w hc hfree hr hy H
    have hnr := last_later hlast hc hr
    refine ⟨hnr, fun h => (by rw [h] at hr; cases hr), fun j hj => ?_⟩
    by_cases hji : j = i
    · subst hji; exact at_i hy H
    · have h1 := H.2.2 j (ready_mono hj hji)
      obtain ⟨hjun, oj, hoj, hall⟩ := mem_ready.1 hj
      have hiun := (mem_ready.1 hr).1
      have hap : oi.apart ops oj = true ∧ (clsS ex fz j oj = 0 ∨ clsS ex fz j oj = 1) := by
        rcases hfree j oj hoj hji hjun with h | h | h
        · exact absurd hj (not_ready_of_waits hiun h)
        · exact absurd hj (not_ready_of_reach hc (getD_of_ready hiun) h)
        · exact h
      have h2 := stepR_put1S hoj hap.2 hap.1 (fun cs b => hsel i oi cs b hi) (fun cs b => hsel j oj cs b hoj) hy h1
      refine stepR_monoS (fun a' w' h3 => ih (listed.setIfInBounds j true) a' w' (hc.set hj) ?_ (ready_mono hr (Ne.symm hji)) h3.1 ?_) h2
      · intro k ok hk hki hun
        refine hfree k ok hk hki ?_
        by_cases hjk : j = k
        · subst hjk; exact hjun
        · rw [getD_set_ne true hjk] at hun; exact hun
      · rw [Array.setIfInBounds_comm _ _ hji]
        exact h3.2

/-! ### what is loud may be taken first, ahead of what only reckons -/
theorem R_lateT {n : Nat} {Q : Act → World → Prop} {k : Nat} {ok : Oper} (hk : ops[k]? = some ok) (hcl : clsS ex fz k ok = 2) (hlast : Waits ops k n ∨ reachB ops k n = true) (hsel : ∀ (j : Nat) (o : Oper) cs b, ops[j]? = some o → o.op ≠ .select cs b) :
    ∀ (f : Nat) (listed : Array Bool) (a : Act) (w : World), Closed ops listed →
      (∀ j oj, ops[j]? = some oj → j ≠ k → listed.getD j true = false → Waits ops k j ∨ reachB ops k j = true ∨ (oj.apart ops ok = true ∧ clsS ex fz j oj = 0)) →
      k ∈ Region.ready .any ops listed → wpOp P ops NoOut k (fun a w => S w ∧ wpAnyT P ops ex fz S n Q f (listed.setIfInBounds k true) a w) a w → wpAnyT P ops ex fz S n Q (f + 1) listed a w := by
  intro f
  have at_k : ∀ {K : Act → World → Prop} {a : Act} {w : World}, wpOp P ops NoOut k (fun a w => S w ∧ K a w) a w → stepS P ops ex fz S k K a w := fun H => by
    unfold stepS; simp only [hk, hcl]; exact H
  induction f with
  | zero =>
    intro listed a w hc _ hr H
    have hnr := last_later hlast hc hr
    refine ⟨hnr, fun h => (by rw [h] at hr; cases hr), fun j hj => ?_⟩
    by_cases hji : j = k
    · subst hji; exact at_k H
    · obtain ⟨a', w', h⟩ := wpOp_some H
      have := ready_mono hj hji
      rw [h.2.1] at this
      exact absurd hj (by rw [List.mem_singleton.1 this]; exact hnr)
  | succ f ih =>
    intro listed a w hc hfree hr H
    have hnr := last_later hlast hc hr
    refine ⟨hnr, fun h => (by rw [h] at hr; cases hr), fun j hj => ?_⟩
    by_cases hji : j = k
    · subst hji; exact at_k H
    · obtain ⟨hjun, oj, hoj, hall⟩ := mem_ready.1 hj
      have hkun := (mem_ready.1 hr).1
      have hap : oj.apart ops ok = true ∧ clsS ex fz j oj = 0 := by
        rcases hfree j oj hoj hji hjun with h | h | h
        · exact absurd hj (not_ready_of_waits hkun h)
        · exact absurd hj (not_ready_of_reach hc (getD_of_ready hkun) h)
        · exact h
      obtain ⟨hap, hc0⟩ := hap
      obtain ⟨h1, h2, h3⟩ := Oper.apart_spec hap
      have hsj := fun cs b => hsel j oj cs b hoj
      -- a frame behind k: j yields there just what it yields here
      have same : ∀ (a' : Act) (v : Value), From ok a a' → (YieldsIf P ops S oj v a' ↔ YieldsIf P ops S oj v a) := by
        rintro a' v ⟨ds, u, rfl⟩
        have e1 : execOp ((({ a with defers := ds } : Act).put ok.dst u).eval) oj = execOp a.eval oj := execOp_put oj hsj { a with defers := ds } ok.dst u h3
        have e2 : Region.wanted oj (yielded ops (({ a with defers := ds } : Act).put ok.dst u).tmps) = Region.wanted oj (yielded ops a.tmps) := wanted_put oj { a with defers := ds } ok.dst u h3
        exact ⟨fun h => h.of_same e1.symm e2.symm, fun h => h.of_same e1 e2⟩
      have H' := wpOp_from hk H
      obtain ⟨a1, w1, hf1, hS1, hA⟩ := wpOp_some H'
      have hj1 := hA.2.2 j (ready_mono hj hji)
      unfold stepS at hj1
      simp only [hoj, hc0] at hj1
      obtain ⟨v, hy1, -⟩ := hj1
      have hy : YieldsIf P ops S oj v a := (same a1 v hf1).1 hy1
      unfold stepS
      simp only [hoj, hc0]
      refine ⟨v, hy, ih (listed.setIfInBounds j true) (a.put oj.dst v) w (hc.set hj) ?_ (ready_mono hr (Ne.symm hji)) ?_⟩
      · intro i oi hi hik hun
        refine hfree i oi hi hik ?_
        by_cases hji' : j = i
        · subst hji'; exact hjun
        · rw [getD_set_ne true hji'] at hun; exact hun
      · refine wpOp_after hk hap (fun cs b => hsel k ok cs b hk) H' fun a' w' ⟨hf, hS', hA'⟩ => ⟨hS', ?_⟩
        have hj2 := hA'.2.2 j (ready_mono hj hji)
        unfold stepS at hj2
        simp only [hoj, hc0] at hj2
        obtain ⟨v', hy', hK⟩ := hj2
        have : v = v' := yieldsIf_unique hS' hy ((same a' v' hf).1 hy')
        subst this
        rw [Array.setIfInBounds_comm _ _ hji]
        exact hK

/-! ### the order of the text -/
def okLast (ops : Array Oper) (n k : Nat) : Bool := match ops[n]? with
  | some on => on.after.any (fun e => Region.binds .any e && e.on == k) || reachB ops k n
  | none => false
def lexGoT (ops : Array Oper) (ex fz : List Nat) (n : Nat) : Nat → Nat → Array Bool → Bool
  | 0, _, listed => Region.ready .any ops listed == [n]
  | f + 1, k, listed => (Region.ready .any ops listed).contains k && (List.range ops.size).all (fun j => decide (j ≤ k) || okPairS ops ex fz k j) && okLast ops n k && lexGoT ops ex fz n f (k + 1) (listed.setIfInBounds k true)
def noAfter (ops : Array Oper) (n : Nat) : Bool := ops.all fun o => o.after.all fun e => e.on != n
def lexOkT (ex fz : List Nat) (ops : Array Oper) : Bool := Region.noSelect ops && decide (0 < ops.size) && noAfter ops (ops.size - 1) && lexGoT ops ex fz (ops.size - 1) (ops.size - 1) 0 (Array.replicate ops.size false)
theorem R_lexT {n : Nat} {Q : Act → World → Prop} (hs : Region.noSelect ops = true) : ∀ (l : List Oper) (k : Nat) (listed : Array Bool) (a : Act) (w : World), (∀ j, j < l.length → l[j]? = ops[k + j]?) →
    (∀ j, j < k → listed.getD j true = true) → Closed ops listed → lexGoT ops ex fz n l.length k listed = true → wpLexS P ops ex fz S Q k l a w → wpAnyT P ops ex fz S n Q l.length listed a w
  | [], _, _, _, _, _, _, _, hB, h => ⟨by simpa [lexGoT] using hB, h⟩
  | o :: l, k, listed, a, w, hl, hlow, hc, hB, h => by
    have h0 : ops[k]? = some o := by simpa using (hl 0 (by simp)).symm
    simp only [List.length_cons, lexGoT, Bool.and_eq_true, List.all_eq_true, List.mem_range, Bool.or_eq_true, decide_eq_true_eq] at hB
    obtain ⟨⟨⟨hr, hf⟩, hln⟩, hB'⟩ := hB
    have hr' : k ∈ Region.ready .any ops listed := by simpa using hr
    have hsel := Region.noSelect_spec hs
    have pair : ∀ j oj, ops[j]? = some oj → j ≠ k → listed.getD j true = false → okPairS ops ex fz k j = true := fun j oj hj hne hun => by
      have hlt : j < ops.size := (Array.getElem?_eq_some_iff.1 hj).1
      rcases hf j hlt with h | h
      · have := hlow j (by omega)
        rw [hun] at this; cases this
      · exact h
    have wt : ∀ j oj, ops[j]? = some oj → oj.after.any (fun e => Region.binds .any e && e.on == k) = true → Waits ops k j := fun j oj hj h => by
      obtain ⟨e, he, hb⟩ := Array.any_eq_true'.1 h
      simp only [Bool.and_eq_true, beq_iff_eq] at hb
      exact ⟨oj, hj, e, he, hb.1, hb.2⟩
    have hlow' : ∀ j, j < k + 1 → (listed.setIfInBounds k true).getD j true = true := fun j hj => by
      by_cases e : k = j
      · subst e
        rcases Nat.lt_or_ge k listed.size with h' | h'
        · simp [h']
        · simp [h']
      · rw [getD_set_ne true e]; exact hlow j (by omega)
    have next := fun a w => R_lexT (Q := Q) hs l (k + 1) (listed.setIfInBounds k true) a w (fun j hj => by have := hl (j + 1) (by simpa using hj); simpa [Nat.add_assoc, Nat.add_comm 1 j] using this) hlow' (hc.set hr') hB'
    have hlast : Waits ops k n ∨ reachB ops k n = true := by
      unfold okLast at hln
      cases hon : ops[n]? with
      | none => rw [hon] at hln; cases hln
      | some on =>
        rw [hon] at hln
        rcases Bool.or_eq_true _ _ |>.mp hln with h | h
        · exact .inl (wt n on hon h)
        · exact .inr h
    rcases clsS_cases ex fz k o with hcl | hcl | hcl <;> simp only [wpLexS, hcl] at h
    · obtain ⟨v, hy, hK⟩ := h
      refine R_first0T h0 hcl hlast hsel l.length listed a w hc (fun j oj hj hne hun => ?_) hr' hy (next _ _ hK)
      have := pair j oj hj hne hun
      simp only [okPairS, h0, hj, hcl, Bool.or_eq_true] at this
      rcases this with (h | h) | h
      · exact .inl (wt j oj hj h)
      · exact .inr (.inl h)
      · exact .inr (.inr h)
    · obtain ⟨v, hy, hK⟩ := h
      refine R_first1T h0 hcl hlast hsel l.length listed a w hc (fun j oj hj hne hun => ?_) hr' hy (next _ _ hK)
      have := pair j oj hj hne hun
      simp only [okPairS, h0, hj, hcl, Bool.or_eq_true, Bool.and_eq_true, beq_iff_eq] at this
      rcases this with (h | h) | h
      · exact .inl (wt j oj hj h)
      · exact .inr (.inl h)
      · exact .inr (.inr h)
    · refine R_lateT h0 hcl hlast hsel l.length listed a w hc (fun j oj hj hne hun => ?_) hr' ?_
      · have := pair j oj hj hne hun
        simp only [okPairS, h0, hj, hcl, Bool.or_eq_true, Bool.and_eq_true, beq_iff_eq] at this
        rcases this with (h | h) | h
        · exact .inl (wt j oj hj h)
        · exact .inr (.inl h)
        · exact .inr (.inr h)
      · unfold wpOp
        simp only [h0]
        split
        · rename_i hw
          rw [if_pos hw] at h
          exact .inl (Oper.wp_mono (fun a w h => ⟨h.1, next a w h.2⟩) h)
        · rename_i hw
          rw [if_neg hw] at h
          exact ⟨h.1, next _ _ h.2⟩

theorem noOut_wp {o : Oper} {a : Act} {w : World} {K : Act → World → Prop} (h : o.wp P a w K (Exit.then K NoOut)) : o.wp P a w K NoOut := by
  unfold Oper.wp at *
  generalize (execOp a.eval o).run P w = r at *
  cases r with
  | ok n w' =>
    cases n <;> simp only [Oper.upon] at h ⊢ <;> first
      | exact h
      | exact Calls.mono h (fun e w'' he => by cases e <;> exact he)
  | halt x w' => cases x <;> simp only [Oper.upon] at h ⊢ <;> exact h
/-- the walk in the order of the text, to the last operation -/
def wpLexT (P : Program) (ops : Array Oper) (ex fz : List Nat) (S : World → Prop) (Q : Act → World → Prop) : Nat → List Oper → Act → World → Prop
  | _, [], _, _ => False
  | _, [o], a, w => wpList P ops (Exit.then Q NoOut) [o] a w
  | k, o :: o' :: rest, a, w =>
    match clsS ex fz k o with
    | 0 => ∃ v, YieldsIf P ops S o v a ∧ wpLexT P ops ex fz S Q (k + 1) (o' :: rest) (a.put o.dst v) w
    | 1 => ∃ v, ReadsAt P ops o v a w ∧ wpLexT P ops ex fz S Q (k + 1) (o' :: rest) (a.put o.dst v) w
    | _ => if Region.wanted o (yielded ops a.tmps) then o.wp P a w (fun a w => S w ∧ wpLexT P ops ex fz S Q (k + 1) (o' :: rest) a w) NoOut else S w ∧ wpLexT P ops ex fz S Q (k + 1) (o' :: rest) (a.put o.dst undef) w
theorem lexT_S {n : Nat} {Q : Act → World → Prop} : ∀ (l : List Oper) (k : Nat) (a : Act) (w : World), (∀ j, j < l.length → l[j]? = ops[k + j]?) → k + l.length = n + 1 → wpLexT P ops ex fz S Q k l a w →
    wpLexS P ops ex fz S (fun a w => wpOp P ops (Exit.then Q NoOut) n Q a w) k l.dropLast a w
  | [], _, _, _, _, _, h => h.elim
  | [o], k, a, w, hl, hn, h => by
    have hkn : k = n := by simpa using hn
    subst hkn
    have h0 : ops[k]? = some o := by simpa using (hl 0 (by simp)).symm
    rw [show [o].dropLast = [] from rfl]
    unfold wpLexS
    unfold wpLexT wpList at h
    unfold wpOp
    simp only [h0]
    split at h
    · rename_i hw; rw [if_pos hw]
      rcases h with h | h
      · exact .inl (Oper.wp_mono (fun a w h => h) h)
      · exact .inr h
    · rename_i hw; rw [if_neg hw]; exact h
  | o :: o' :: rest, k, a, w, hl, hn, h => by
    have next := fun a w => lexT_S (n := n) (Q := Q) (o' :: rest) (k + 1) a w (fun j hj => by have := hl (j + 1) (by simpa using hj); simpa [Nat.add_assoc, Nat.add_comm 1 j] using this) (by simp at hn ⊢; omega)
    simp only [List.dropLast_cons_cons]
    rcases clsS_cases ex fz k o with hcl | hcl | hcl <;> simp only [wpLexT, wpLexS, hcl] at h ⊢
    · obtain ⟨v, h1, h2⟩ := h; exact ⟨v, h1, next _ _ h2⟩
    · obtain ⟨v, h1, h2⟩ := h; exact ⟨v, h1, next _ _ h2⟩
    · split
      · rename_i hw; rw [if_pos hw] at h; exact Oper.wp_mono (fun a w h => ⟨h.1, next _ _ h.2⟩) h
      · rename_i hw; rw [if_neg hw] at h; exact ⟨h.1, next _ _ h.2⟩
theorem ready_after {n : Nat} (hz : noAfter ops n = true) (listed : Array Bool) (h : Region.ready .any ops listed = [n]) : Region.ready .any ops (listed.setIfInBounds n true) = [] := by
  refine List.eq_nil_iff_forall_not_mem.2 fun i hi => ?_
  obtain ⟨hun, o, ho, hall⟩ := mem_ready.1 hi
  by_cases hin : n = i
  · subst hin
    rcases Nat.lt_or_ge n listed.size with h' | h'
    · simp [h'] at hun
    · simp [h'] at hun
  · rw [getD_set_ne true hin] at hun
    have hm : i ∈ Region.ready .any ops listed := mem_ready.2 ⟨hun, o, ho, fun e he hb => by
      have h2 := hall e he hb
      have hne : n ≠ e.on := by
        obtain ⟨hlt, rfl⟩ := Array.getElem?_eq_some_iff.1 ho
        have := Array.all_eq_true'.1 (Array.all_eq_true'.1 hz _ (Array.getElem_mem hlt)) e he
        simpa using Ne.symm (by simpa using this)
      rwa [getD_set_ne false hne] at h2⟩
    rw [h] at hm
    exact hin (List.mem_singleton.1 hm).symm
theorem wpAny_lexT {Q : Act → World → Prop} {a : Act} {w : World} {l : List Oper} (hB : lexOkT ex fz l.toArray = true) (hS : S w) (h : wpLexT P l.toArray ex fz S Q 0 l a w) :
    wpAny P .any l.toArray (Exit.then Q NoOut) l.length (Array.replicate l.length false) a w := by
  simp only [lexOkT, Bool.and_eq_true, decide_eq_true_eq, List.size_toArray] at hB
  obtain ⟨⟨⟨hs, h0⟩, hna⟩, hg⟩ := hB
  obtain ⟨n, hn⟩ : ∃ n, l.length = n + 1 := ⟨l.length - 1, by omega⟩
  have hd := lexT_S (n := n) l 0 a w (fun j hj => by simp) (by omega) h
  rw [hn] at hg hna ⊢
  simp only [Nat.add_sub_cancel] at hg hna
  refine wpAny_of_T (ex := ex) (fz := fz) (S := S) (n := n) (ready_after hna) n _ _ _ hS ?_
  have hdl : l.dropLast.length = n := by simp [hn]
  have := R_lexT (P := P) (ex := ex) (fz := fz) (S := S) (n := n) hs l.dropLast 0 (Array.replicate (n + 1) false) a w
    (fun j hj => by rw [hdl] at hj; simp [List.getElem?_dropLast]; intro hh; omega) (fun j hj => by omega) (fun j oj _ hl => (by rw [getD_replicate_false] at hl; cases hl)) (by rw [hdl]; exact hg) hd
  rw [hdl] at this
  exact this
/-- A REGION THAT DRAWS ITS ORDER, WALKED IN THE ORDER OF THE TEXT; the last operation may break S. -/
theorem wp_region_lexT {id : Nat} {Q : Exit → Act → World → Prop} {a : Act} {w : World} {l : List Oper} (ex fz : List Nat) (S : World → Prop) (hm : P.follows .mixedOrders = true) (hB : lexOkT ex fz l.toArray = true) (hS : S w.drew)
    (h : S w.drew → wpLexT P l.toArray ex fz S (Q .normal) 0 l a w.drew) : (Code.region id l.toArray true).wp P Q a w :=
  wp_mono (wp_region_any (Q := Exit.then (Q .normal) NoOut) hm (by simpa using wpAny_lexT hB hS (h hS))) (fun e a w h => by cases e <;> first | exact h | exact (h : False).elim)
section
variable {Q : Act → World → Prop} {k : Nat} {o o' : Oper} {rest : List Oper} {a : Act} {w : World}
theorem wpLexT_last (h : ∀ K : Act → World → Prop, (∀ a w, Q a w → K a w) → wpList P ops (Exit.then K NoOut) [o] a w) : wpLexT P ops ex fz S Q k [o] a w := h _ fun _ _ h => h
theorem wpLexT_pure (hc : clsS ex fz k o = 0)
    (h : ∀ K : Act → World → Prop, (∀ a w, wpLexT P ops ex fz S Q (k + 1) (o' :: rest) a w → K a w) →
      if Region.wanted o (yielded ops a.tmps) then ∃ v, (∀ w', S w' → (execOp a.eval o).run P w' = .ok (.value v) w') ∧ K (a.put o.dst v) w else K (a.put o.dst undef) w) : wpLexT P ops ex fz S Q k (o :: o' :: rest) a w := by
  have := h _ (fun _ _ h => h)
  simp only [wpLexT, hc]
  split at this
  · rename_i hw; obtain ⟨v, h1, h2⟩ := this; exact ⟨v, .inl ⟨hw, h1⟩, h2⟩
  · rename_i hw; exact ⟨undef, .inr ⟨by simpa using hw, rfl⟩, this⟩
theorem wpLexT_pure0 (hc : clsS ex fz k o = 0)
    (h : ∀ K : Act → World → Prop, (∀ a w, wpLexT P ops ex fz S Q (k + 1) (o' :: rest) a w → K a w) →
      if Region.wanted o (yielded ops a.tmps) then ∃ v, (∀ w', (execOp a.eval o).run P w' = .ok (.value v) w') ∧ K (a.put o.dst v) w else K (a.put o.dst undef) w) : wpLexT P ops ex fz S Q k (o :: o' :: rest) a w := by
  refine wpLexT_pure hc fun K hK => ?_
  have := h K hK
  split at this
  · rename_i hw; rw [if_pos hw]; obtain ⟨v, h1, h2⟩ := this; exact ⟨v, fun w' _ => h1 w', h2⟩
  · rename_i hw; rw [if_neg hw]; exact this
theorem wpLexT_read (hc : clsS ex fz k o = 1)
    (h : ∀ K : Act → World → Prop, (∀ a w, wpLexT P ops ex fz S Q (k + 1) (o' :: rest) a w → K a w) →
      if Region.wanted o (yielded ops a.tmps) then ∃ v, (execOp a.eval o).run P w = .ok (.value v) w ∧ K (a.put o.dst v) w else K (a.put o.dst undef) w) : wpLexT P ops ex fz S Q k (o :: o' :: rest) a w := by
  have := h _ (fun _ _ h => h)
  simp only [wpLexT, hc]
  split at this
  · rename_i hw; obtain ⟨v, h1, h2⟩ := this; exact ⟨v, .inl ⟨hw, h1⟩, h2⟩
  · rename_i hw; exact ⟨undef, .inr ⟨by simpa using hw, rfl⟩, this⟩
theorem wpLexT_loud (hc : clsS ex fz k o = 2)
    (h : ∀ K : Act → World → Prop, (∀ a w, S w → (S w → wpLexT P ops ex fz S Q (k + 1) (o' :: rest) a w) → K a w) → wpList P ops (Exit.then K NoOut) [o] a w) : wpLexT P ops ex fz S Q k (o :: o' :: rest) a w := by
  have := h (fun a w => S w ∧ wpLexT P ops ex fz S Q (k + 1) (o' :: rest) a w) (fun _ _ hS h => ⟨hS, h hS⟩)
  simp only [wpLexT, hc]
  unfold wpList at this
  split at this
  · rename_i hw
    rw [if_pos hw]
    rcases this with h | ⟨_, _, _, hf⟩
    · exact Oper.wp_mono (fun a w h => h) (noOut_wp h)
    · exact (hf : False).elim
  · rename_i hw
    rw [if_neg hw]; exact this
end
end
end Go.Proofs.YtopmdbmnlflpgaaDoor
