/- A region that draws its order, in which one loud operation floats among the others: a walk in the order of the text that may take it earlier, ahead of each loud one. Under a condition S on the world, as in XLexS. -/
import Derived.Test.YtopmdbmnlflpgaaDoorLexS
namespace Go.Proofs.YtopmdbmnlflpgaaDoor
section
variable {P : Program} {ops : Array Oper} {ex fz : List Nat} {S : World → Prop}
/-- what only reckons, ahead of what is loud: pushed over it -/
theorem late_push {Q : Act → World → Prop} {k j : Nat} {ok oj : Oper} (hk : ops[k]? = some ok) (hoj : ops[j]? = some oj) (hji : j ≠ k) (hap : oj.apart ops ok = true) (hc0 : clsS ex fz j oj = 0) (hsel : ∀ (j : Nat) (o : Oper) cs b, ops[j]? = some o → o.op ≠ .select cs b)
    {f : Nat} {listed : Array Bool} {a : Act} {w : World} (hj : j ∈ Region.ready .any ops listed)
    (H : wpOp P ops NoOut k (fun a w => S w ∧ wpAnyS P ops ex fz S Q (f + 1) (listed.setIfInBounds k true) a w) a w) :
    ∃ v w1, S w1 ∧ YieldsIf P ops S oj v a ∧ wpOp P ops NoOut k (fun a w => S w ∧ wpAnyS P ops ex fz S Q f ((listed.setIfInBounds j true).setIfInBounds k true) a w) (a.put oj.dst v) w := by
  obtain ⟨h1, h2, h3⟩ := Oper.apart_spec hap
  have hsj := fun cs b => hsel j oj cs b hoj
  have same : ∀ (a' : Act) (v : Value), From ok a a' → (YieldsIf P ops S oj v a' ↔ YieldsIf P ops S oj v a) := by
    rintro a' v ⟨ds, u, rfl⟩
    have e1 : execOp ((({ a with defers := ds } : Act).put ok.dst u).eval) oj = execOp a.eval oj := execOp_put oj hsj { a with defers := ds } ok.dst u h3
    have e2 : Region.wanted oj (yielded ops (({ a with defers := ds } : Act).put ok.dst u).tmps) = Region.wanted oj (yielded ops a.tmps) := wanted_put oj { a with defers := ds } ok.dst u h3
    exact ⟨fun h => h.of_same e1.symm e2.symm, fun h => h.of_same e1 e2⟩
  have H' := wpOp_from hk H
  obtain ⟨a1, w1, hf1, hS1, hA⟩ := wpOp_some H'
  have hj1 := hA.2 j (ready_mono hj hji)
  unfold stepS at hj1
  simp only [hoj, hc0] at hj1
  obtain ⟨v, hy1, -⟩ := hj1
  have hy : YieldsIf P ops S oj v a := (same a1 v hf1).1 hy1
  refine ⟨v, w1, hS1, hy, wpOp_after hk hap (fun cs b => hsel k ok cs b hk) H' fun a' w' ⟨hf, hS', hA'⟩ => ⟨hS', ?_⟩⟩
  have hj2 := hA'.2 j (ready_mono hj hji)
  unfold stepS at hj2
  simp only [hoj, hc0] at hj2
  obtain ⟨v', hy', hK⟩ := hj2
  have : v = v' := yieldsIf_unique hS' hy ((same a' v' hf).1 hy')
  subst this
  rw [Array.setIfInBounds_comm _ _ hji]
  exact hK
theorem R_late2S {Q : Act → World → Prop} {k g : Nat} {ok og : Oper} (hk : ops[k]? = some ok) (hg : ops[g]? = some og) (hcl : clsS ex fz k ok = 2) (hcg : clsS ex fz g og = 2) (hsel : ∀ (j : Nat) (o : Oper) cs b, ops[j]? = some o → o.op ≠ .select cs b) :
    ∀ (f : Nat) (listed : Array Bool) (a : Act) (w : World), Closed ops listed →
      (∀ j oj, ops[j]? = some oj → j ≠ k → j ≠ g → listed.getD j true = false → (Waits ops k j ∨ Waits ops g j) ∨ (reachB ops k j = true ∨ reachB ops g j = true) ∨ (oj.apart ops ok = true ∧ oj.apart ops og = true ∧ clsS ex fz j oj = 0)) →
      k ∈ Region.ready .any ops listed → g ∈ Region.ready .any ops listed →
      wpOp P ops NoOut k (fun a w => S w ∧ wpAnyS P ops ex fz S Q f (listed.setIfInBounds k true) a w) a w →
      wpOp P ops NoOut g (fun a w => S w ∧ wpAnyS P ops ex fz S Q f (listed.setIfInBounds g true) a w) a w → wpAnyS P ops ex fz S Q (f + 1) listed a w := by
  intro f
  have at_k : ∀ {i : Nat} {oi : Oper} {K : Act → World → Prop} {a : Act} {w : World}, ops[i]? = some oi → clsS ex fz i oi = 2 → wpOp P ops NoOut i (fun a w => S w ∧ K a w) a w → stepS P ops ex fz S i K a w := fun hi hc H => by
    unfold stepS; simp only [hi, hc]; exact H
  induction f with
  | zero =>
    intro listed a w _ _ hr _ H G
    refine ⟨fun h => (by rw [h] at hr; cases hr), fun j hj => ?_⟩
    by_cases hji : j = k
    · subst hji; exact at_k hk hcl H
    · obtain ⟨a', w', h⟩ := wpOp_some H
      have := ready_mono hj hji
      rw [h.2.1] at this; cases this
  | succ f ih =>
    intro listed a w hc hfree hr hrg H G
    refine ⟨fun h => (by rw [h] at hr; cases hr), fun j hj => ?_⟩
    by_cases hji : j = k
    · subst hji; exact at_k hk hcl H
    by_cases hjg : j = g
    · subst hjg; exact at_k hg hcg G
    obtain ⟨hjun, oj, hoj, hall⟩ := mem_ready.1 hj
    have hkun := (mem_ready.1 hr).1
    have hgun := (mem_ready.1 hrg).1
    have hap : oj.apart ops ok = true ∧ oj.apart ops og = true ∧ clsS ex fz j oj = 0 := by
      rcases hfree j oj hoj hji hjg hjun with (h | h) | (h | h) | h
      · exact absurd hj (not_ready_of_waits hkun h)
      · exact absurd hj (not_ready_of_waits hgun h)
      · exact absurd hj (not_ready_of_reach hc (getD_of_ready hkun) h)
      · exact absurd hj (not_ready_of_reach hc (getD_of_ready hgun) h)
      · exact h
    obtain ⟨hap, hap2, hc0⟩ := hap
    obtain ⟨v, w1, hS1, hy, HK⟩ := late_push hk hoj hji hap hc0 hsel hj H
    obtain ⟨v2, _, _, hy2, HG⟩ := late_push hg hoj hjg hap2 hc0 hsel hj G
    have : v = v2 := yieldsIf_unique hS1 hy hy2
    subst this
    unfold stepS
    simp only [hoj, hc0]
    refine ⟨v, hy, ih (listed.setIfInBounds j true) (a.put oj.dst v) w (hc.set hj) ?_ (ready_mono hr (Ne.symm hji)) (ready_mono hrg (Ne.symm hjg)) HK HG⟩
    intro i oi hi hik hig hun
    refine hfree i oi hi hik hig ?_
    by_cases hji' : j = i
    · subst hji'; exact hjun
    · rw [getD_set_ne true hji'] at hun; exact hun
def okPair2 (ops : Array Oper) (ex fz : List Nat) (k g j : Nat) : Bool :=
  match ops[k]?, ops[g]?, ops[j]? with
  | some ok, some og, some oj =>
    oj.after.any (fun e => Region.binds .any e && e.on == k) || oj.after.any (fun e => Region.binds .any e && e.on == g) || reachB ops k j || reachB ops g j || (oj.apart ops ok && oj.apart ops og && clsS ex fz j oj == 0)
  | _, _, _ => false
/-- number g is listed already -/
def lexGoD (ops : Array Oper) (ex fz : List Nat) (g : Nat) : Nat → Nat → Array Bool → Bool
  | 0, _, _ => false
  | f + 1, k, listed => if k = g then lexGoS ops ex fz f (k + 1) listed else
    (Region.ready .any ops listed).contains k && (List.range ops.size).all (fun j => decide (j ≤ k) || decide (j = g) || okPairS ops ex fz k j) && lexGoD ops ex fz g f (k + 1) (listed.setIfInBounds k true)
/-- number g is not listed yet -/
def lexGoF (ops : Array Oper) (ex fz : List Nat) (g : Nat) : Nat → Nat → Array Bool → Bool
  | 0, _, _ => false
  | f + 1, k, listed => if k = g then lexGoS ops ex fz (f + 1) k listed else
    match ops[k]?, ops[g]? with
    | some ok, some og =>
      (Region.ready .any ops listed).contains k && lexGoF ops ex fz g f (k + 1) (listed.setIfInBounds k true) &&
      (match clsS ex fz k ok with
       | 0 => (List.range ops.size).all (fun j => decide (j ≤ k) || okPairS ops ex fz k j)
       | 1 => false
       | _ => (Region.ready .any ops listed).contains g && (clsS ex fz g og == 2) && (List.range ops.size).all (fun j => decide (j ≤ k) || decide (j = g) || okPair2 ops ex fz k g j) && lexGoD ops ex fz g (f + 1) k (listed.setIfInBounds g true))
    | _, _ => false
def lexOkF (ex fz : List Nat) (g : Nat) (ops : Array Oper) : Bool := Region.noSelect ops && decide (g < ops.size) && lexGoF ops ex fz g ops.size 0 (Array.replicate ops.size false)
/-- a loud operation -/
def loudW (P : Program) (ops : Array Oper) (S : World → Prop) (o : Oper) (K : Act → World → Prop) (a : Act) (w : World) : Prop :=
  if Region.wanted o (yielded ops a.tmps) then o.wp P a w (fun a w => S w ∧ K a w) NoOut else S w ∧ K (a.put o.dst undef) w
theorem loudW_wpOp {K K' : Act → World → Prop} {k : Nat} {o : Oper} {a : Act} {w : World} (h0 : ops[k]? = some o) (h : loudW P ops S o K a w) (hK : ∀ a w, K a w → K' a w) : wpOp P ops NoOut k (fun a w => S w ∧ K' a w) a w := by
  unfold wpOp
  unfold loudW at h
  simp only [h0]
  split
  · rename_i hw
    rw [if_pos hw] at h
    exact .inl (Oper.wp_mono (fun a w h => ⟨h.1, hK a w h.2⟩) h)
  · rename_i hw
    rw [if_neg hw] at h
    exact ⟨h.1, hK _ _ h.2⟩
/-- the walk, number g being done -/
def wpLexD (P : Program) (ops : Array Oper) (ex fz : List Nat) (S : World → Prop) (Q : Act → World → Prop) (g : Nat) : Nat → List Oper → Act → World → Prop
  | _, [], _, _ => False
  | k, o :: rest, a, w =>
    if k = g then wpLexS P ops ex fz S Q (k + 1) rest a w else
    match clsS ex fz k o with
    | 0 => ∃ v, YieldsIf P ops S o v a ∧ wpLexD P ops ex fz S Q g (k + 1) rest (a.put o.dst v) w
    | 1 => ∃ v, ReadsAt P ops o v a w ∧ wpLexD P ops ex fz S Q g (k + 1) rest (a.put o.dst v) w
    | _ => loudW P ops S o (wpLexD P ops ex fz S Q g (k + 1) rest) a w
/-- the walk, number g (og) being not done yet -/
def wpLexF (P : Program) (ops : Array Oper) (ex fz : List Nat) (S : World → Prop) (Q : Act → World → Prop) (g : Nat) (og : Oper) : Nat → List Oper → Act → World → Prop
  | _, [], _, _ => False
  | k, o :: rest, a, w =>
    if k = g then wpLexS P ops ex fz S Q k (o :: rest) a w else
    match clsS ex fz k o with
    | 0 => ∃ v, YieldsIf P ops S o v a ∧ wpLexF P ops ex fz S Q g og (k + 1) rest (a.put o.dst v) w
    | 1 => False
    | _ => loudW P ops S o (wpLexF P ops ex fz S Q g og (k + 1) rest) a w ∧ loudW P ops S og (wpLexD P ops ex fz S Q g k (o :: rest)) a w
theorem waits_of {j k : Nat} {oj : Oper} (hj : ops[j]? = some oj) (h : oj.after.any (fun e => Region.binds .any e && e.on == k) = true) : Waits ops k j := by
  obtain ⟨e, he, hb⟩ := Array.any_eq_true'.1 h
  simp only [Bool.and_eq_true, beq_iff_eq] at hb
  exact ⟨oj, hj, e, he, hb.1, hb.2⟩
theorem low_set {k : Nat} {listed : Array Bool} (hlow : ∀ j, j < k → listed.getD j true = true) : ∀ j, j < k + 1 → (listed.setIfInBounds k true).getD j true = true := fun j hj => by
  by_cases e : k = j
  · subst e
    rcases Nat.lt_or_ge k listed.size with h' | h'
    · simp [h']
    · simp [h']
  · rw [getD_set_ne true e]; exact hlow j (by omega)
theorem R_lexD {Q : Act → World → Prop} (g : Nat) (hs : Region.noSelect ops = true) : ∀ (l : List Oper) (k : Nat) (listed : Array Bool) (a : Act) (w : World), (∀ j, l[j]? = ops[k + j]?) → k ≤ g → g < k + l.length →
    (∀ j, j < k → listed.getD j true = true) → listed.getD g true = true → Closed ops listed → lexGoD ops ex fz g l.length k listed = true → wpLexD P ops ex fz S Q g k l a w → wpAnyS P ops ex fz S Q (l.length - 1) listed a w
  | [], _, _, _, _, _, h1, h2, _, _, _, _, _ => by simp at h2; omega
  | o :: l, k, listed, a, w, hl, h1, h2, hlow, hgl, hc, hB, h => by
    have h0 : ops[k]? = some o := by simpa using (hl 0).symm
    have hl' : ∀ j, l[j]? = ops[k + 1 + j]? := fun j => by have := hl (j + 1); simpa [Nat.add_assoc, Nat.add_comm 1 j] using this
    by_cases hkg : k = g
    · subst hkg
      simp only [List.length_cons, lexGoD, if_true] at hB
      simp only [wpLexD, if_true] at h
      have hlow' : ∀ j, j < k + 1 → listed.getD j true = true := fun j hj => by
        rcases Nat.lt_or_ge j k with h' | h'
        · exact hlow j h'
        · rw [show j = k by omega]; exact hgl
      exact R_lexS hs l (k + 1) listed a w hl' hlow' hc hB h
    · simp only [List.length_cons, lexGoD, if_neg hkg, Bool.and_eq_true, List.all_eq_true, List.mem_range, Bool.or_eq_true, decide_eq_true_eq] at hB
      simp only [wpLexD, if_neg hkg] at h
      obtain ⟨⟨hr, hf⟩, hB'⟩ := hB
      have hr' : k ∈ Region.ready .any ops listed := by simpa using hr
      have hsel := Region.noSelect_spec hs
      have pair : ∀ j oj, ops[j]? = some oj → j ≠ k → listed.getD j true = false → okPairS ops ex fz k j = true := fun j oj hj hne hun => by
        have hlt : j < ops.size := (Array.getElem?_eq_some_iff.1 hj).1
        rcases hf j hlt with (h | h) | h
        · have := hlow j (by omega)
          rw [hun] at this; cases this
        · subst h; rw [hun] at hgl; cases hgl
        · exact h
      have hll : 1 ≤ l.length := by simp only [List.length_cons] at h2; omega
      have next := fun a w => R_lexD (Q := Q) g hs l (k + 1) (listed.setIfInBounds k true) a w hl' (by omega) (by simp only [List.length_cons] at h2; omega) (low_set hlow) (by rw [getD_set_ne true hkg]; exact hgl) (hc.set hr') hB'
      rw [List.length_cons, Nat.add_sub_cancel, show l.length = (l.length - 1) + 1 by omega]
      rcases clsS_cases ex fz k o with hcl | hcl | hcl <;> simp only [hcl] at h
      · obtain ⟨v, hy, hK⟩ := h
        refine R_first0S h0 hcl hsel (l.length - 1) listed a w hc (fun j oj hj hne hun => ?_) hr' hy (next _ _ hK)
        have := pair j oj hj hne hun
        simp only [okPairS, h0, hj, hcl, Bool.or_eq_true] at this
        rcases this with (h | h) | h
        · exact .inl (waits_of hj h)
        · exact .inr (.inl h)
        · exact .inr (.inr h)
      · obtain ⟨v, hy, hK⟩ := h
        refine R_first1S h0 hcl hsel (l.length - 1) listed a w hc (fun j oj hj hne hun => ?_) hr' hy (next _ _ hK)
        have := pair j oj hj hne hun
        simp only [okPairS, h0, hj, hcl, Bool.or_eq_true, Bool.and_eq_true, beq_iff_eq] at this
        rcases this with (h | h) | h
        · exact .inl (waits_of hj h)
        · exact .inr (.inl h)
        · exact .inr (.inr h)
      · refine R_lateS h0 hcl hsel (l.length - 1) listed a w hc (fun j oj hj hne hun => ?_) hr' (loudW_wpOp h0 h next)
        have := pair j oj hj hne hun
        simp only [okPairS, h0, hj, hcl, Bool.or_eq_true, Bool.and_eq_true, beq_iff_eq] at this
        rcases this with (h | h) | h
        · exact .inl (waits_of hj h)
        · exact .inr (.inl h)
        · exact .inr (.inr h)
theorem R_lexF {Q : Act → World → Prop} (g : Nat) (og : Oper) (hg : ops[g]? = some og) (hs : Region.noSelect ops = true) : ∀ (l : List Oper) (k : Nat) (listed : Array Bool) (a : Act) (w : World), (∀ j, l[j]? = ops[k + j]?) → k ≤ g → g < k + l.length →
    (∀ j, j < k → listed.getD j true = true) → Closed ops listed → lexGoF ops ex fz g l.length k listed = true → wpLexF P ops ex fz S Q g og k l a w → wpAnyS P ops ex fz S Q l.length listed a w
  | [], _, _, _, _, _, h1, h2, _, _, _, _ => by simp at h2; omega
  | o :: l, k, listed, a, w, hl, h1, h2, hlow, hc, hB, h => by
    have h0 : ops[k]? = some o := by simpa using (hl 0).symm
    have hl' : ∀ j, l[j]? = ops[k + 1 + j]? := fun j => by have := hl (j + 1); simpa [Nat.add_assoc, Nat.add_comm 1 j] using this
    by_cases hkg : k = g
    · subst hkg
      simp only [List.length_cons, lexGoF, if_true] at hB
      simp only [wpLexF, if_true] at h
      exact R_lexS hs (o :: l) k listed a w hl hlow hc (by simpa using hB) h
    · simp only [List.length_cons, lexGoF, if_neg hkg, h0, hg, Bool.and_eq_true] at hB
      simp only [wpLexF, if_neg hkg] at h
      obtain ⟨⟨hr, hB'⟩, hf⟩ := hB
      have hr' : k ∈ Region.ready .any ops listed := by simpa using hr
      have hsel := Region.noSelect_spec hs
      have next := fun a w => R_lexF (Q := Q) g og hg hs l (k + 1) (listed.setIfInBounds k true) a w hl' (by omega) (by simp only [List.length_cons] at h2; omega) (low_set hlow) (hc.set hr') hB'
      rcases clsS_cases ex fz k o with hcl | hcl | hcl <;> simp only [hcl] at h hf
      · obtain ⟨v, hy, hK⟩ := h
        simp only [List.all_eq_true, List.mem_range, Bool.or_eq_true, decide_eq_true_eq] at hf
        refine R_first0S h0 hcl hsel l.length listed a w hc (fun j oj hj hne hun => ?_) hr' hy (next _ _ hK)
        have hlt : j < ops.size := (Array.getElem?_eq_some_iff.1 hj).1
        rcases hf j hlt with h | this
        · have := hlow j (by omega)
          rw [hun] at this; cases this
        · simp only [okPairS, h0, hj, hcl, Bool.or_eq_true] at this
          rcases this with (h | h) | h
          · exact .inl (waits_of hj h)
          · exact .inr (.inl h)
          · exact .inr (.inr h)
      · simp only [Bool.and_eq_true, beq_iff_eq, List.all_eq_true, List.mem_range, Bool.or_eq_true, decide_eq_true_eq] at hf
        obtain ⟨⟨⟨hrg, hcg⟩, hf⟩, hBD⟩ := hf
        have hrg' : g ∈ Region.ready .any ops listed := by simpa using hrg
        have hgs : g < listed.size := by
          have := (mem_ready.1 hrg').1
          rcases Nat.lt_or_ge g listed.size with h' | h'
          · exact h'
          · simp [Array.getElem?_eq_none h'] at this
        have nextD := fun a w => R_lexD (Q := Q) (P := P) (S := S) g hs (o :: l) k (listed.setIfInBounds g true) a w hl h1 h2 (fun j hj => by rw [getD_set_ne true (by omega)]; exact hlow j hj) (by simp [hgs]) (hc.set hrg') (by simpa using hBD)
        refine R_late2S h0 hg hcl hcg hsel l.length listed a w hc (fun j oj hj hne hne2 hun => ?_) hr' hrg' (loudW_wpOp h0 h.1 next) (loudW_wpOp hg h.2 nextD)
        have hlt : j < ops.size := (Array.getElem?_eq_some_iff.1 hj).1
        rcases hf j hlt with (h | h) | this
        · have := hlow j (by omega)
          rw [hun] at this; cases this
        · exact absurd h hne2
        · simp only [okPair2, h0, hg, hj, Bool.or_eq_true, Bool.and_eq_true, beq_iff_eq] at this
          rcases this with (((h | h) | h) | h) | ⟨⟨h, h'⟩, h''⟩
          · exact .inl (.inl (waits_of hj h))
          · exact .inl (.inr (waits_of hj h))
          · exact .inr (.inl (.inl h))
          · exact .inr (.inl (.inr h))
          · exact .inr (.inr ⟨h, h', h''⟩)
/-- A REGION THAT DRAWS ITS ORDER, IN WHICH NUMBER g FLOATS. -/
theorem wp_region_lexF {id : Nat} {Q : Exit → Act → World → Prop} {a : Act} {w : World} {l : List Oper} (ex fz : List Nat) (g : Nat) (og : Oper) (S : World → Prop) (hg : l.toArray[g]? = some og) (hm : P.follows .mixedOrders = true) (hB : lexOkF ex fz g l.toArray = true) (hS : S w.drew)
    (h : S w.drew → wpLexF P l.toArray ex fz S (Q .normal) g og 0 l a w.drew) : (Code.region id l.toArray true).wp P Q a w := by
  simp only [lexOkF, Bool.and_eq_true, decide_eq_true_eq] at hB
  refine wp_region_any hm (wpAny_of_RS (ex := ex) (fz := fz) (S := S) _ _ _ _ hS ?_)
  have := R_lexF (P := P) (ex := ex) (fz := fz) (S := S) (Q := Q .normal) g og hg hB.1.1 l 0 (Array.replicate l.toArray.size false) a w.drew (by simp) (by omega) (by simpa using hB.1.2) (fun j hj => by omega) (fun j oj _ hl => (by rw [getD_replicate_false] at hl; cases hl)) (by simpa using hB.2) (h hS)
  simpa using this
/-! ### step by step -/
section
variable {Q : Act → World → Prop} {k g : Nat} {o og : Oper} {rest : List Oper} {a : Act} {w : World}
theorem loudW_of {C : Act → World → Prop} (h : ∀ K : Act → World → Prop, (∀ a w, S w → (S w → C a w) → K a w) → wpList P ops (Exit.then K NoOut) [o] a w) : loudW P ops S o C a w := by
  have := h (fun a w => S w ∧ C a w) (fun _ _ hS h => ⟨hS, h hS⟩)
  unfold loudW
  unfold wpList at this
  split at this
  · rename_i hw
    rw [if_pos hw]
    rcases this with h | ⟨_, _, _, hf⟩
    · refine Oper.wp_mono (fun a w h => h) ?_
      unfold Oper.wp at *
      generalize (execOp a.eval o).run P w = r at *
      cases r with
      | ok n w' =>
        cases n <;> simp only [Oper.upon] at h ⊢ <;> first
          | exact h
          | exact Calls.mono h (fun e w'' he => by cases e <;> exact he)
      | halt x w' => cases x <;> simp only [Oper.upon] at h ⊢ <;> exact h
    · exact (hf : False).elim
  · rename_i hw
    rw [if_neg hw]; exact this
theorem wpLexF_here (hk : k = g) (h : wpLexS P ops ex fz S Q k (o :: rest) a w) : wpLexF P ops ex fz S Q g og k (o :: rest) a w := by
  simp only [wpLexF, if_pos hk]; exact h
theorem wpLexD_skip (hk : k = g) (h : wpLexS P ops ex fz S Q (k + 1) rest a w) : wpLexD P ops ex fz S Q g k (o :: rest) a w := by
  simp only [wpLexD, if_pos hk]; exact h
theorem wpLexF_pure (hk : k ≠ g) (hc : clsS ex fz k o = 0)
    (h : ∀ K : Act → World → Prop, (∀ a w, wpLexF P ops ex fz S Q g og (k + 1) rest a w → K a w) →
      if Region.wanted o (yielded ops a.tmps) then ∃ v, (∀ w', S w' → (execOp a.eval o).run P w' = .ok (.value v) w') ∧ K (a.put o.dst v) w else K (a.put o.dst undef) w) : wpLexF P ops ex fz S Q g og k (o :: rest) a w := by
  have := h _ (fun _ _ h => h)
  simp only [wpLexF, if_neg hk, hc]
  split at this
  · rename_i hw; obtain ⟨v, h1, h2⟩ := this; exact ⟨v, .inl ⟨hw, h1⟩, h2⟩
  · rename_i hw; exact ⟨undef, .inr ⟨by simpa using hw, rfl⟩, this⟩
theorem wpLexF_pure0 (hk : k ≠ g) (hc : clsS ex fz k o = 0)
    (h : ∀ K : Act → World → Prop, (∀ a w, wpLexF P ops ex fz S Q g og (k + 1) rest a w → K a w) →
      if Region.wanted o (yielded ops a.tmps) then ∃ v, (∀ w', (execOp a.eval o).run P w' = .ok (.value v) w') ∧ K (a.put o.dst v) w else K (a.put o.dst undef) w) : wpLexF P ops ex fz S Q g og k (o :: rest) a w := by
  refine wpLexF_pure hk hc fun K hK => ?_
  have := h K hK
  split at this
  · rename_i hw; rw [if_pos hw]; obtain ⟨v, h1, h2⟩ := this; exact ⟨v, fun w' _ => h1 w', h2⟩
  · rename_i hw; rw [if_neg hw]; exact this
theorem wpLexF_loud (hk : k ≠ g) (hc : clsS ex fz k o = 2)
    (h : ∀ K : Act → World → Prop, (∀ a w, S w → (S w → wpLexF P ops ex fz S Q g og (k + 1) rest a w) → K a w) → wpList P ops (Exit.then K NoOut) [o] a w)
    (h2 : ∀ K : Act → World → Prop, (∀ a w, S w → (S w → wpLexD P ops ex fz S Q g k (o :: rest) a w) → K a w) → wpList P ops (Exit.then K NoOut) [og] a w) : wpLexF P ops ex fz S Q g og k (o :: rest) a w := by
  simp only [wpLexF, if_neg hk, hc]
  exact ⟨loudW_of h, loudW_of h2⟩
theorem wpLexD_pure (hk : k ≠ g) (hc : clsS ex fz k o = 0)
    (h : ∀ K : Act → World → Prop, (∀ a w, wpLexD P ops ex fz S Q g (k + 1) rest a w → K a w) →
      if Region.wanted o (yielded ops a.tmps) then ∃ v, (∀ w', S w' → (execOp a.eval o).run P w' = .ok (.value v) w') ∧ K (a.put o.dst v) w else K (a.put o.dst undef) w) : wpLexD P ops ex fz S Q g k (o :: rest) a w := by
  have := h _ (fun _ _ h => h)
  simp only [wpLexD, if_neg hk, hc]
  split at this
  · rename_i hw; obtain ⟨v, h1, h2⟩ := this; exact ⟨v, .inl ⟨hw, h1⟩, h2⟩
  · rename_i hw; exact ⟨undef, .inr ⟨by simpa using hw, rfl⟩, this⟩
theorem wpLexD_pure0 (hk : k ≠ g) (hc : clsS ex fz k o = 0)
    (h : ∀ K : Act → World → Prop, (∀ a w, wpLexD P ops ex fz S Q g (k + 1) rest a w → K a w) →
      if Region.wanted o (yielded ops a.tmps) then ∃ v, (∀ w', (execOp a.eval o).run P w' = .ok (.value v) w') ∧ K (a.put o.dst v) w else K (a.put o.dst undef) w) : wpLexD P ops ex fz S Q g k (o :: rest) a w := by
  refine wpLexD_pure hk hc fun K hK => ?_
  have := h K hK
  split at this
  · rename_i hw; rw [if_pos hw]; obtain ⟨v, h1, h2⟩ := this; exact ⟨v, fun w' _ => h1 w', h2⟩
  · rename_i hw; rw [if_neg hw]; exact this
theorem wpLexD_loud (hk : k ≠ g) (hc : clsS ex fz k o = 2)
    (h : ∀ K : Act → World → Prop, (∀ a w, S w → (S w → wpLexD P ops ex fz S Q g (k + 1) rest a w) → K a w) → wpList P ops (Exit.then K NoOut) [o] a w) : wpLexD P ops ex fz S Q g k (o :: rest) a w := by
  simp only [wpLexD, if_neg hk, hc]
  exact loudW_of h
end
end
end Go.Proofs.YtopmdbmnlflpgaaDoor
