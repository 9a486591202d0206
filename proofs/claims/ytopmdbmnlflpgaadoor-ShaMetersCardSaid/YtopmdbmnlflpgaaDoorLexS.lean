/- A region that draws its order, walked once in the order of the text, under a condition S on the world: what yields one value in every world that meets S counts as mere reckoning (positions 'fz'); each loud operation shows S anew. -/
import Derived.Test.YtopmdbmnlflpgaaDoorLex
namespace Go.Proofs.YtopmdbmnlflpgaaDoor
section
variable {P : Program} {ops : Array Oper} {ex fz : List Nat} {S : World → Prop}
def clsS (ex fz : List Nat) (k : Nat) (o : Oper) : Nat := if ex.contains k then 2 else if fz.contains k then 0 else lexClass o
theorem YieldsIf.reads {o : Oper} {v : Value} {a : Act} {w : World} (h : YieldsIf P ops S o v a) (hS : S w) : ReadsAt P ops o v a w := by
  rcases h with ⟨h1, h2⟩ | h
  · exact .inl ⟨h1, h2 w hS⟩
  · exact .inr h
theorem yieldsIf_unique {o : Oper} {u v : Value} {a : Act} {w : World} (hS : S w) (h : YieldsIf P ops S o v a) (h' : YieldsIf P ops S o u a) : v = u := by
  rcases h with ⟨h1, h2⟩ | ⟨h1, h2⟩ <;> rcases h' with ⟨g1, g2⟩ | ⟨g1, g2⟩
  · have := (h2 w hS).symm.trans (g2 w hS)
    injection this with this; injection this
  · rw [h1] at g1; cases g1
  · rw [h1] at g1; cases g1
  · rw [h2, g2]
/-! ### whatever order is picked -/
def stepS (P : Program) (ops : Array Oper) (ex fz : List Nat) (S : World → Prop) (j : Nat) (K : Act → World → Prop) (a : Act) (w : World) : Prop :=
  match ops[j]? with
  | none => K a w
  | some o => match clsS ex fz j o with
    | 0 => ∃ v, YieldsIf P ops S o v a ∧ K (a.put o.dst v) w
    | 1 => ∃ v, ReadsAt P ops o v a w ∧ K (a.put o.dst v) w
    | _ => wpOp P ops NoOut j (fun a w => S w ∧ K a w) a w
theorem stepR_monoS {j : Nat} {K K' : Act → World → Prop} {a : Act} {w : World} (h : ∀ a w, K a w → K' a w) (hs : stepS P ops ex fz S j K a w) : stepS P ops ex fz S j K' a w := by
  unfold stepS at *
  split
  · exact h _ _ (by simpa [*] using hs)
  · rename_i o ho
    simp only [ho] at hs
    split at hs
    · obtain ⟨v, h1, h2⟩ := hs; exact ⟨v, h1, h _ _ h2⟩
    · obtain ⟨v, h1, h2⟩ := hs; exact ⟨v, h1, h _ _ h2⟩
    · exact wpOp_mono (fun a w hk => ⟨hk.1, h a w hk.2⟩) hs
theorem stepR_wpOpS {j : Nat} {K : Act → World → Prop} {a : Act} {w : World} {Q : Exit → Act → World → Prop} (hS : S w) (hs : stepS P ops ex fz S j K a w) : wpOp P ops Q j (fun a w => S w ∧ K a w) a w := by
  unfold stepS at hs
  split at hs
  · rename_i ho; unfold wpOp; simp only [ho]; exact ⟨hS, hs⟩
  · rename_i o ho
    split at hs
    · obtain ⟨v, h1, h2⟩ := hs; exact h1.wpOp ho hS ⟨hS, h2⟩
    · obtain ⟨v, h1, h2⟩ := hs; exact h1.wpOp ho ⟨hS, h2⟩
    · exact wpOp_noOut hs

def wpAnyS (P : Program) (ops : Array Oper) (ex fz : List Nat) (S : World → Prop) (Q : Act → World → Prop) : Nat → Array Bool → Act → World → Prop
  | 0, listed, a, w => Region.ready .any ops listed = [] ∧ Q a w
  | f + 1, listed, a, w => (Region.ready .any ops listed = [] → Q a w) ∧ ∀ i ∈ Region.ready .any ops listed, stepS P ops ex fz S i (wpAnyS P ops ex fz S Q f (listed.setIfInBounds i true)) a w
theorem wpAny_of_RS {Q : Exit → Act → World → Prop} : ∀ (f : Nat) (listed : Array Bool) (a : Act) (w : World), S w → wpAnyS P ops ex fz S (Q .normal) f listed a w → wpAny P .any ops Q f listed a w
  | 0, _, _, _, _, h => h
  | f + 1, _, _, _, hS, h => ⟨h.1, fun i hi => wpOp_mono (fun a w h' => wpAny_of_RS f _ a w h'.1 h'.2) (stepR_wpOpS hS (h.2 i hi))⟩

/-! ### an operation that only reckons may be taken first -/
theorem stepR_put0S {j : Nat} {oi oj : Oper} {v : Value} (hj : ops[j]? = some oj) (hap : oi.apart ops oj = true) (hsi : ∀ cs b, oi.op ≠ .select cs b) (hsj : ∀ cs b, oj.op ≠ .select cs b)
    {K : Act → World → Prop} {a : Act} {w : World} (hy : YieldsIf P ops S oi v a) (h : stepS P ops ex fz S j K (a.put oi.dst v) w) :
    stepS P ops ex fz S j (fun a' w' => YieldsIf P ops S oi v a' ∧ K (a'.put oi.dst v) w') a w := by
  obtain ⟨h1, h2, h3⟩ := Oper.apart_spec hap
  have keep : ∀ u, YieldsIf P ops S oi v (a.put oj.dst u) := fun u => hy.of_same (execOp_put oi hsi a oj.dst u h3) (wanted_put oi a oj.dst u h3)
  unfold stepS at *
  simp only [hj] at h ⊢
  split at h
  · obtain ⟨u, g1, g2⟩ := h
    exact ⟨u, g1.of_same (execOp_put oj hsj a oi.dst v h1).symm (wanted_put oj a oi.dst v h1).symm, keep u, by rw [← Act.put_comm a v u h2]; exact g2⟩
  · obtain ⟨u, g1, g2⟩ := h
    exact ⟨u, g1.of_same (execOp_put oj hsj a oi.dst v h1).symm (wanted_put oj a oi.dst v h1).symm, keep u, by rw [← Act.put_comm a v u h2]; exact g2⟩
  · exact wpOp_mono (fun a' w' h' => ⟨h'.2.1, h'.1, h'.2.2⟩) (wpOp_putIf hj hap hsi hsj (fun _ _ _ h => h) hy h)
theorem R_first0S {Q : Act → World → Prop} {i : Nat} {oi : Oper} {v : Value} (hi : ops[i]? = some oi) (hcl : clsS ex fz i oi = 0) (hsel : ∀ (j : Nat) (o : Oper) cs b, ops[j]? = some o → o.op ≠ .select cs b) :
    ∀ (f : Nat) (listed : Array Bool) (a : Act) (w : World), Closed ops listed →
      (∀ j oj, ops[j]? = some oj → j ≠ i → listed.getD j true = false → Waits ops i j ∨ reachB ops i j = true ∨ oi.apart ops oj = true) →
      i ∈ Region.ready .any ops listed → YieldsIf P ops S oi v a → wpAnyS P ops ex fz S Q f (listed.setIfInBounds i true) (a.put oi.dst v) w → wpAnyS P ops ex fz S Q (f + 1) listed a w := by
  intro f
  have at_i : ∀ {K : Act → World → Prop} {a : Act} {w : World}, YieldsIf P ops S oi v a → K (a.put oi.dst v) w → stepS P ops ex fz S i K a w := fun hy H => by
    unfold stepS; simp only [hi, hcl]; exact ⟨v, hy, H⟩
  induction f with
  | zero =>
    intro listed a w _ _ hr hy H
    refine ⟨fun h => (by rw [h] at hr; cases hr), fun j hj => ?_⟩
    by_cases hji : j = i
    · subst hji; exact at_i hy H
    · have := ready_mono hj hji
      rw [H.1] at this; cases this
  | succ f ih =>
    intro listed a w hc hfree hr hy H
    refine ⟨fun h => (by rw [h] at hr; cases hr), fun j hj => ?_⟩
    by_cases hji : j = i
    · subst hji; exact at_i hy H
    · have h1 := H.2 j (ready_mono hj hji)
      obtain ⟨hjun, oj, hoj, hall⟩ := mem_ready.1 hj
      have hiun := (mem_ready.1 hr).1
      have hap : oi.apart ops oj = true := by
        rcases hfree j oj hoj hji hjun with h | h | h
        · exact absurd hj (not_ready_of_waits hiun h)
        · exact absurd hj (not_ready_of_reach hc (getD_of_ready hiun) h)
        · exact h
      have h2 := stepR_put0S hoj hap (fun cs b => hsel i oi cs b hi) (fun cs b => hsel j oj cs b hoj) hy h1
      refine stepR_monoS (fun a' w' h3 => ih (listed.setIfInBounds j true) a' w' (hc.set hj) ?_ (ready_mono hr (Ne.symm hji)) h3.1 ?_) h2
      · intro k ok hk hki hun
        refine hfree k ok hk hki ?_
        by_cases hjk : j = k
        · subst hjk; exact hjun
        · rw [getD_set_ne true hjk] at hun; exact hun
      · rw [Array.setIfInBounds_comm _ _ hji]
        exact h3.2

/-! ### a load may be taken first, ahead of what only reckons and of other loads -/
theorem stepR_put1S {j : Nat} {oi oj : Oper} {v : Value} (hj : ops[j]? = some oj) (hcj : clsS ex fz j oj = 0 ∨ clsS ex fz j oj = 1) (hap : oi.apart ops oj = true) (hsi : ∀ cs b, oi.op ≠ .select cs b) (hsj : ∀ cs b, oj.op ≠ .select cs b)
    {K : Act → World → Prop} {a : Act} {w : World} (hy : ReadsAt P ops oi v a w) (h : stepS P ops ex fz S j K (a.put oi.dst v) w) :
    stepS P ops ex fz S j (fun a' w' => ReadsAt P ops oi v a' w' ∧ K (a'.put oi.dst v) w') a w := by
  obtain ⟨h1, h2, h3⟩ := Oper.apart_spec hap
  have keep : ∀ u, ReadsAt P ops oi v (a.put oj.dst u) w := fun u => hy.of_same (execOp_put oi hsi a oj.dst u h3) (wanted_put oi a oj.dst u h3)
  unfold stepS at *
  simp only [hj] at h ⊢
  rcases hcj with hcj | hcj <;> simp only [hcj] at h ⊢
  · obtain ⟨u, g1, g2⟩ := h
    exact ⟨u, g1.of_same (execOp_put oj hsj a oi.dst v h1).symm (wanted_put oj a oi.dst v h1).symm, keep u, by rw [← Act.put_comm a v u h2]; exact g2⟩
  · obtain ⟨u, g1, g2⟩ := h
    exact ⟨u, g1.of_same (execOp_put oj hsj a oi.dst v h1).symm (wanted_put oj a oi.dst v h1).symm, keep u, by rw [← Act.put_comm a v u h2]; exact g2⟩
theorem R_first1S {Q : Act → World → Prop} {i : Nat} {oi : Oper} {v : Value} (hi : ops[i]? = some oi) (hcl : clsS ex fz i oi = 1) (hsel : ∀ (j : Nat) (o : Oper) cs b, ops[j]? = some o → o.op ≠ .select cs b) :
    ∀ (f : Nat) (listed : Array Bool) (a : Act) (w : World), Closed ops listed →
      (∀ j oj, ops[j]? = some oj → j ≠ i → listed.getD j true = false → Waits ops i j ∨ reachB ops i j = true ∨ (oi.apart ops oj = true ∧ (clsS ex fz j oj = 0 ∨ clsS ex fz j oj = 1))) →
      i ∈ Region.ready .any ops listed → ReadsAt P ops oi v a w → wpAnyS P ops ex fz S Q f (listed.setIfInBounds i true) (a.put oi.dst v) w → wpAnyS P ops ex fz S Q (f + 1) listed a w := by
  intro f
  have at_i : ∀ {K : Act → World → Prop} {a : Act} {w : World}, ReadsAt P ops oi v a w → K (a.put oi.dst v) w → stepS P ops ex fz S i K a w := fun hy H => by
    unfold stepS; simp only [hi, hcl]; exact ⟨v, hy, H⟩
  induction f with
  | zero =>
    intro listed a w _ _ hr hy H
    refine ⟨fun h => (by rw [h] at hr; cases hr), fun j hj => ?_⟩
    by_cases hji : j = i
    · subst hji; exact at_i hy H
    · have := ready_mono hj hji
      rw [H.1] at this; cases this
  | succ f ih =>
    intro listed a w hc hfree hr hy H
    refine ⟨fun h => (by rw [h] at hr; cases hr), fun j hj => ?_⟩
    by_cases hji : j = i
    · subst hji; exact at_i hy H
    · have h1 := H.2 j (ready_mono hj hji)
      obtain ⟨hjun, oj, hoj, hall⟩ := mem_ready.1 hj
      have hiun := (mem_ready.1 hr).1
      have hap : oi.apart ops oj = true ∧ (clsS ex fz j oj = 0 ∨ clsS ex fz j oj = 1) := by
        rcases hfree j oj hoj hji hjun with h | h | h
        · exact absurd hj (not_ready_of_waits hiun h)
        · exact absurd hj (not_ready_of_reach hc (getD_of_ready hiun) h)
        · exact h
      have h2 := stepR_put1S hoj hap.2 hap.1 (fun cs b => hsel i oi cs b hi) (fun cs b => hsel j oj cs b hoj) hy h1
      refine stepR_monoS (fun a' w' h3 => ih (listed.setIfInBounds j true) a' w' (hc.set hj) ?_ (ready_mono hr (Ne.symm hji)) h3.1 ?_) h2
      · intro k ok hk hki hun
        refine hfree k ok hk hki ?_
        by_cases hjk : j = k
        · subst hjk; exact hjun
        · rw [getD_set_ne true hjk] at hun; exact hun
      · rw [Array.setIfInBounds_comm _ _ hji]
        exact h3.2

/-! ### what is loud may be taken first, ahead of what only reckons -/
theorem R_lateS {Q : Act → World → Prop} {k : Nat} {ok : Oper} (hk : ops[k]? = some ok) (hcl : clsS ex fz k ok = 2) (hsel : ∀ (j : Nat) (o : Oper) cs b, ops[j]? = some o → o.op ≠ .select cs b) :
    ∀ (f : Nat) (listed : Array Bool) (a : Act) (w : World), Closed ops listed →
      (∀ j oj, ops[j]? = some oj → j ≠ k → listed.getD j true = false → Waits ops k j ∨ reachB ops k j = true ∨ (oj.apart ops ok = true ∧ clsS ex fz j oj = 0)) →
      k ∈ Region.ready .any ops listed → wpOp P ops NoOut k (fun a w => S w ∧ wpAnyS P ops ex fz S Q f (listed.setIfInBounds k true) a w) a w → wpAnyS P ops ex fz S Q (f + 1) listed a w := by
  intro f
  have at_k : ∀ {K : Act → World → Prop} {a : Act} {w : World}, wpOp P ops NoOut k (fun a w => S w ∧ K a w) a w → stepS P ops ex fz S k K a w := fun H => by
    unfold stepS; simp only [hk, hcl]; exact H
  induction f with
  | zero =>
    intro listed a w _ _ hr H
    refine ⟨fun h => (by rw [h] at hr; cases hr), fun j hj => ?_⟩
    by_cases hji : j = k
    · subst hji; exact at_k H
    · obtain ⟨a', w', h⟩ := wpOp_some H
      have := ready_mono hj hji
      rw [h.2.1] at this; cases this
  | succ f ih =>
    intro listed a w hc hfree hr H
    refine ⟨fun h => (by rw [h] at hr; cases hr), fun j hj => ?_⟩
    by_cases hji : j = k
    · subst hji; exact at_k H
    · obtain ⟨hjun, oj, hoj, hall⟩ := mem_ready.1 hj
      have hkun := (mem_ready.1 hr).1
      have hap : oj.apart ops ok = true ∧ clsS ex fz j oj = 0 := by
        rcases hfree j oj hoj hji hjun with h | h | h
        · exact absurd hj (not_ready_of_waits hkun h)
        · exact absurd hj (not_ready_of_reach hc (getD_of_ready hkun) h)
        · exact h
      obtain ⟨hap, hc0⟩ := hap
      obtain ⟨h1, h2, h3⟩ := Oper.apart_spec hap
      have hsj := fun cs b => hsel j oj cs b hoj
      -- a frame behind k: j yields there just what it yields here
      have same : ∀ (a' : Act) (v : Value), From ok a a' → (YieldsIf P ops S oj v a' ↔ YieldsIf P ops S oj v a) := by
        rintro a' v ⟨ds, u, rfl⟩
        have e1 : execOp ((({ a with defers := ds } : Act).put ok.dst u).eval) oj = execOp a.eval oj := execOp_put oj hsj { a with defers := ds } ok.dst u h3
        have e2 : Region.wanted oj (yielded ops (({ a with defers := ds } : Act).put ok.dst u).tmps) = Region.wanted oj (yielded ops a.tmps) := wanted_put oj { a with defers := ds } ok.dst u h3
        exact ⟨fun h => h.of_same e1.symm e2.symm, fun h => h.of_same e1 e2⟩
      have H' := wpOp_from hk H
      obtain ⟨a1, w1, hf1, hS1, hA⟩ := wpOp_some H'
      have hj1 := hA.2 j (ready_mono hj hji)
      unfold stepS at hj1
      simp only [hoj, hc0] at hj1
      obtain ⟨v, hy1, -⟩ := hj1
      have hy : YieldsIf P ops S oj v a := (same a1 v hf1).1 hy1
      unfold stepS
      simp only [hoj, hc0]
      refine ⟨v, hy, ih (listed.setIfInBounds j true) (a.put oj.dst v) w (hc.set hj) ?_ (ready_mono hr (Ne.symm hji)) ?_⟩
      · intro i oi hi hik hun
        refine hfree i oi hi hik ?_
        by_cases hji' : j = i
        · subst hji'; exact hjun
        · rw [getD_set_ne true hji'] at hun; exact hun
      · refine wpOp_after hk hap (fun cs b => hsel k ok cs b hk) H' fun a' w' ⟨hf, hS', hA'⟩ => ⟨hS', ?_⟩
        have hj2 := hA'.2 j (ready_mono hj hji)
        unfold stepS at hj2
        simp only [hoj, hc0] at hj2
        obtain ⟨v', hy', hK⟩ := hj2
        have : v = v' := yieldsIf_unique hS' hy ((same a' v' hf).1 hy')
        subst this
        rw [Array.setIfInBounds_comm _ _ hji]
        exact hK

/-! ### the order of the text -/
def okPairS (ops : Array Oper) (ex fz : List Nat) (k j : Nat) : Bool :=
  match ops[k]?, ops[j]? with
  | some ok, some oj =>
    oj.after.any (fun e => Region.binds .any e && e.on == k) || reachB ops k j ||
      (match clsS ex fz k ok with
       | 0 => ok.apart ops oj
       | 1 => ok.apart ops oj && (clsS ex fz j oj == 0 || clsS ex fz j oj == 1)
       | _ => oj.apart ops ok && clsS ex fz j oj == 0)
  | _, _ => false
def lexGoS (ops : Array Oper) (ex fz : List Nat) : Nat → Nat → Array Bool → Bool
  | 0, _, listed => (Region.ready .any ops listed).isEmpty
  | f + 1, k, listed => (Region.ready .any ops listed).contains k && (List.range ops.size).all (fun j => decide (j ≤ k) || okPairS ops ex fz k j) && lexGoS ops ex fz f (k + 1) (listed.setIfInBounds k true)
def lexOkS (ex fz : List Nat) (ops : Array Oper) : Bool := Region.noSelect ops && lexGoS ops ex fz ops.size 0 (Array.replicate ops.size false)

/-- the walk in the order of the text -/
def wpLexS (P : Program) (ops : Array Oper) (ex fz : List Nat) (S : World → Prop) (Q : Act → World → Prop) : Nat → List Oper → Act → World → Prop
  | _, [], a, w => Q a w
  | k, o :: rest, a, w =>
    match clsS ex fz k o with
    | 0 => ∃ v, YieldsIf P ops S o v a ∧ wpLexS P ops ex fz S Q (k + 1) rest (a.put o.dst v) w
    | 1 => ∃ v, ReadsAt P ops o v a w ∧ wpLexS P ops ex fz S Q (k + 1) rest (a.put o.dst v) w
    | _ => if Region.wanted o (yielded ops a.tmps) then o.wp P a w (fun a w => S w ∧ wpLexS P ops ex fz S Q (k + 1) rest a w) NoOut else S w ∧ wpLexS P ops ex fz S Q (k + 1) rest (a.put o.dst undef) w

theorem clsS_cases (ex fz : List Nat) (k : Nat) (o : Oper) : clsS ex fz k o = 0 ∨ clsS ex fz k o = 1 ∨ clsS ex fz k o = 2 := by
  unfold clsS
  split
  · simp
  · split
    · simp
    · unfold lexClass
      split <;> first | simp | (split <;> simp)

theorem R_lexS {Q : Act → World → Prop} (hs : Region.noSelect ops = true) : ∀ (l : List Oper) (k : Nat) (listed : Array Bool) (a : Act) (w : World), (∀ j, l[j]? = ops[k + j]?) →
    (∀ j, j < k → listed.getD j true = true) → Closed ops listed → lexGoS ops ex fz l.length k listed = true → wpLexS P ops ex fz S Q k l a w → wpAnyS P ops ex fz S Q l.length listed a w
  | [], _, _, _, _, _, _, _, hB, h => ⟨by simpa [lexGoS] using hB, h⟩
  | o :: l, k, listed, a, w, hl, hlow, hc, hB, h => by
    have h0 : ops[k]? = some o := by simpa using (hl 0).symm
    simp only [List.length_cons, lexGoS, Bool.and_eq_true, List.all_eq_true, List.mem_range, Bool.or_eq_true, decide_eq_true_eq] at hB
    obtain ⟨⟨hr, hf⟩, hB'⟩ := hB
    have hr' : k ∈ Region.ready .any ops listed := by simpa using hr
    have hsel := Region.noSelect_spec hs
    have pair : ∀ j oj, ops[j]? = some oj → j ≠ k → listed.getD j true = false → okPairS ops ex fz k j = true := fun j oj hj hne hun => by
      have hlt : j < ops.size := (Array.getElem?_eq_some_iff.1 hj).1
      rcases hf j hlt with h | h
      · have := hlow j (by omega)
        rw [hun] at this; cases this
      · exact h
    have wt : ∀ j oj, ops[j]? = some oj → oj.after.any (fun e => Region.binds .any e && e.on == k) = true → Waits ops k j := fun j oj hj h => by
      obtain ⟨e, he, hb⟩ := Array.any_eq_true'.1 h
      simp only [Bool.and_eq_true, beq_iff_eq] at hb
      exact ⟨oj, hj, e, he, hb.1, hb.2⟩
    have hlow' : ∀ j, j < k + 1 → (listed.setIfInBounds k true).getD j true = true := fun j hj => by
      by_cases e : k = j
      · subst e
        rcases Nat.lt_or_ge k listed.size with h' | h'
        · simp [h']
        · simp [h']
      · rw [getD_set_ne true e]; exact hlow j (by omega)
    have next := fun a w => R_lexS (Q := Q) hs l (k + 1) (listed.setIfInBounds k true) a w (fun j => by have := hl (j + 1); simpa [Nat.add_assoc, Nat.add_comm 1 j] using this) hlow' (hc.set hr') hB'
    rcases clsS_cases ex fz k o with hcl | hcl | hcl <;> simp only [wpLexS, hcl] at h
    · obtain ⟨v, hy, hK⟩ := h
      refine R_first0S h0 hcl hsel l.length listed a w hc (fun j oj hj hne hun => ?_) hr' hy (next _ _ hK)
      have := pair j oj hj hne hun
      simp only [okPairS, h0, hj, hcl, Bool.or_eq_true] at this
      rcases this with (h | h) | h
      · exact .inl (wt j oj hj h)
      · exact .inr (.inl h)
      · exact .inr (.inr h)
    · obtain ⟨v, hy, hK⟩ := h
      refine R_first1S h0 hcl hsel l.length listed a w hc (fun j oj hj hne hun => ?_) hr' hy (next _ _ hK)
      have := pair j oj hj hne hun
      simp only [okPairS, h0, hj, hcl, Bool.or_eq_true, Bool.and_eq_true, beq_iff_eq] at this
      rcases this with (h | h) | h
      · exact .inl (wt j oj hj h)
      · exact .inr (.inl h)
      · exact .inr (.inr h)
    · refine R_lateS h0 hcl hsel l.length listed a w hc (fun j oj hj hne hun => ?_) hr' ?_
      · have := pair j oj hj hne hun
        simp only [okPairS, h0, hj, hcl, Bool.or_eq_true, Bool.and_eq_true, beq_iff_eq] at this
        rcases this with (h | h) | h
        · exact .inl (wt j oj hj h)
        · exact .inr (.inl h)
        · exact .inr (.inr h)
      · unfold wpOp
        simp only [h0]
        split
        · rename_i hw
          rw [if_pos hw] at h
          exact .inl (Oper.wp_mono (fun a w h => ⟨h.1, next a w h.2⟩) h)
        · rename_i hw
          rw [if_neg hw] at h
          exact ⟨h.1, next _ _ h.2⟩

/-- A REGION THAT DRAWS ITS ORDER, WALKED IN THE ORDER OF THE TEXT. -/
theorem wp_region_lexS {id : Nat} {Q : Exit → Act → World → Prop} {a : Act} {w : World} {l : List Oper} (ex fz : List Nat) (S : World → Prop) (hm : P.follows .mixedOrders = true) (hB : lexOkS ex fz l.toArray = true) (hS : S w.drew)
    (h : S w.drew → wpLexS P l.toArray ex fz S (Q .normal) 0 l a w.drew) : (Code.region id l.toArray true).wp P Q a w := by
  simp only [lexOkS, Bool.and_eq_true] at hB
  refine wp_region_any hm (wpAny_of_RS (ex := ex) (fz := fz) (S := S) _ _ _ _ hS ?_)
  have := R_lexS (P := P) (ex := ex) (fz := fz) (S := S) (Q := Q .normal) hB.1 l 0 (Array.replicate l.toArray.size false) a w.drew (by simp) (fun j hj => by omega) (fun j oj _ hl => (by rw [getD_replicate_false] at hl; cases hl)) (by simpa using hB.2) (h hS)
  simpa using this

/-! ### step by step -/
section
variable {Q : Act → World → Prop} {k : Nat} {o : Oper} {rest : List Oper} {a : Act} {w : World}
theorem wpLexS_nil (h : Q a w) : wpLexS P ops ex fz S Q k [] a w := h
theorem wpLexS_pure (hc : clsS ex fz k o = 0)
    (h : ∀ K : Act → World → Prop, (∀ a w, wpLexS P ops ex fz S Q (k + 1) rest a w → K a w) →
      if Region.wanted o (yielded ops a.tmps) then ∃ v, (∀ w', S w' → (execOp a.eval o).run P w' = .ok (.value v) w') ∧ K (a.put o.dst v) w else K (a.put o.dst undef) w) : wpLexS P ops ex fz S Q k (o :: rest) a w := by
  have := h _ (fun _ _ h => h)
  simp only [wpLexS, hc]
  split at this
  · rename_i hw; obtain ⟨v, h1, h2⟩ := this; exact ⟨v, .inl ⟨hw, h1⟩, h2⟩
  · rename_i hw; exact ⟨undef, .inr ⟨by simpa using hw, rfl⟩, this⟩
theorem wpLexS_pure0 (hc : clsS ex fz k o = 0)
    (h : ∀ K : Act → World → Prop, (∀ a w, wpLexS P ops ex fz S Q (k + 1) rest a w → K a w) →
      if Region.wanted o (yielded ops a.tmps) then ∃ v, (∀ w', (execOp a.eval o).run P w' = .ok (.value v) w') ∧ K (a.put o.dst v) w else K (a.put o.dst undef) w) : wpLexS P ops ex fz S Q k (o :: rest) a w := by
  refine wpLexS_pure hc fun K hK => ?_
  have := h K hK
  split at this
  · rename_i hw; rw [if_pos hw]; obtain ⟨v, h1, h2⟩ := this; exact ⟨v, fun w' _ => h1 w', h2⟩
  · rename_i hw; rw [if_neg hw]; exact this
theorem wpLexS_read (hc : clsS ex fz k o = 1)
    (h : ∀ K : Act → World → Prop, (∀ a w, wpLexS P ops ex fz S Q (k + 1) rest a w → K a w) →
      if Region.wanted o (yielded ops a.tmps) then ∃ v, (execOp a.eval o).run P w = .ok (.value v) w ∧ K (a.put o.dst v) w else K (a.put o.dst undef) w) : wpLexS P ops ex fz S Q k (o :: rest) a w := by
  have := h _ (fun _ _ h => h)
  simp only [wpLexS, hc]
  split at this
  · rename_i hw; obtain ⟨v, h1, h2⟩ := this; exact ⟨v, .inl ⟨hw, h1⟩, h2⟩
  · rename_i hw; exact ⟨undef, .inr ⟨by simpa using hw, rfl⟩, this⟩
/-- a loud operation: S is shown behind it -/
theorem wpLexS_loud (hc : clsS ex fz k o = 2)
    (h : ∀ K : Act → World → Prop, (∀ a w, S w → (S w → wpLexS P ops ex fz S Q (k + 1) rest a w) → K a w) → wpList P ops (Exit.then K NoOut) [o] a w) : wpLexS P ops ex fz S Q k (o :: rest) a w := by
  have := h (fun a w => S w ∧ wpLexS P ops ex fz S Q (k + 1) rest a w) (fun _ _ hS h => ⟨hS, h hS⟩)
  simp only [wpLexS, hc]
  unfold wpList at this
  split at this
  · rename_i hw
    rw [if_pos hw]
    rcases this with h | ⟨_, _, _, hf⟩
    · refine Oper.wp_mono (fun a w h => h) ?_
      unfold Oper.wp at *
      generalize (execOp a.eval o).run P w = r at *
      cases r with
      | ok n w' =>
        cases n <;> simp only [Oper.upon] at h ⊢ <;> first
          | exact h
          | exact Calls.mono h (fun e w'' he => by cases e <;> exact he)
      | halt x w' => cases x <;> simp only [Oper.upon] at h ⊢ <;> exact h
    · exact (hf : False).elim
  · rename_i hw
    rw [if_neg hw]; exact this
end
end
end Go.Proofs.YtopmdbmnlflpgaaDoor
