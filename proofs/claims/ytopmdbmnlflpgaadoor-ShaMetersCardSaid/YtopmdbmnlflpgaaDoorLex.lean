/- A region that draws its order, walked once in the order of the text: operations that only reckon are free; a load stands in a fixed order with all that writes; what writes, makes memory or calls stands in a fixed order. No condition on memory is asked: a check of the region's edges, which the kernel reckons, and the walk. -/
import Derived.OrdersHeld
import Derived.Still
import Derived.StillTail
import Derived.Tactics2
import Derived.KernelRfl
namespace Go.Proofs.YtopmdbmnlflpgaaDoor
section
variable {P : Program} {ops : Array Oper} {ex : List Nat}

def NoOut : Exit → Act → World → Prop := fun _ _ _ => False

/-- 0: only reckons; 1: reads; 2: all else -/
def lexClass (o : Oper) : Nat := match o.op with
  | .move _ | .assign _ | .pick .. | .fieldAddr .. | .field .. | .indexAddr .. | .index .. | .slice .. | .sliceToArrayPointer .. | .extract .. | .nilCheck .. | .binOp .. | .unOp .. | .convert .. | .build .. | .makeInterface .. => 0
  | .call { callee := .builtin b, .. } => match b with
    | .len | .cap | .min | .max => 0
    | _ => 2
  | .load .. => 1
  | _ => 2
def clsAt (ex : List Nat) (k : Nat) (o : Oper) : Nat := if ex.contains k then 2 else lexClass o

def ReadsAt (P : Program) (ops : Array Oper) (o : Oper) (v : Value) (a : Act) (w : World) : Prop :=
  (Region.wanted o (yielded ops a.tmps) = true ∧ (execOp a.eval o).run P w = .ok (.value v) w) ∨ (Region.wanted o (yielded ops a.tmps) = false ∧ v = undef)
theorem ReadsAt.of_same {o : Oper} {v : Value} {a a' : Act} {w : World} (hy : ReadsAt P ops o v a w) (he : execOp a'.eval o = execOp a.eval o)
    (hw : Region.wanted o (yielded ops a'.tmps) = Region.wanted o (yielded ops a.tmps)) : ReadsAt P ops o v a' w := by
  unfold ReadsAt at *
  rw [he, hw]
  exact hy
theorem ReadsAt.wpOp {i : Nat} {o : Oper} {v : Value} {a : Act} {Q : Exit → Act → World → Prop} {K : Act → World → Prop} {w : World} (hi : ops[i]? = some o) (hy : ReadsAt P ops o v a w) (h : K (a.put o.dst v) w) : wpOp P ops Q i K a w := by
  unfold Go.wpOp
  simp only [hi]
  rcases hy with ⟨hw, hv⟩ | ⟨hw, rfl⟩
  · simp only [hw, if_true, Oper.wp, hv, Oper.upon]; exact .inl h
  · simp only [hw, Bool.false_eq_true, if_false]; exact h
theorem Yields.reads {o : Oper} {v : Value} {a : Act} (h : Yields P ops o v a) (w : World) : ReadsAt P ops o v a w := by
  rcases h with ⟨h1, h2⟩ | h
  · exact .inl ⟨h1, h2 w⟩
  · exact .inr h
theorem yields_unique {o : Oper} {u v : Value} {a : Act} (h : Yields P ops o v a) (h' : Yields P ops o u a) : v = u := by
  rcases h with ⟨h1, h2⟩ | ⟨h1, h2⟩ <;> rcases h' with ⟨g1, g2⟩ | ⟨g1, g2⟩
  · have := (h2 default).symm.trans (g2 default)
    injection this with this; injection this
  · rw [h1] at g1; cases g1
  · rw [h1] at g1; cases g1
  · rw [h2, g2]

theorem wpOp_noOut {j : Nat} {K : Act → World → Prop} {a : Act} {w : World} {Q : Exit → Act → World → Prop} (h : wpOp P ops NoOut j K a w) : wpOp P ops Q j K a w := by
  unfold wpOp at *
  split
  · simpa [*] using h
  · rename_i o ho
    simp only [ho] at h
    split
    · rename_i hw
      simp only [hw, if_true] at h
      rcases h with h | ⟨_, _, _, hf⟩
      · refine .inl ?_
        unfold Oper.wp at *
        generalize (execOp a.eval o).run P w = r at *
        cases r with
        | ok n w' =>
          cases n <;> simp only [Oper.upon] at h ⊢ <;> first
            | exact h
            | exact Calls.mono h (fun e w'' he => by cases e <;> first | exact he | exact (he : False).elim | exact (by obtain ⟨_, _, hf⟩ := he; exact (hf : False).elim))
        | halt x w' => cases x <;> simp only [Oper.upon] at h ⊢ <;> exact (h : False).elim
      · exact (hf : False).elim
    · rename_i hw
      simp only [hw] at h
      exact h

/-- what a loud operation comes to: its own slot (and perhaps a deferred call) is all of the frame that has turned -/
def From (o : Oper) (a a' : Act) : Prop := ∃ ds u, a' = ({ a with defers := ds } : Act).put o.dst u
theorem wpOp_from {j : Nat} {oj : Oper} {K : Act → World → Prop} {a : Act} {w : World} (hj : ops[j]? = some oj) (h : wpOp P ops NoOut j K a w) :
    wpOp P ops NoOut j (fun a' w' => From oj a a' ∧ K a' w') a w := by
  unfold wpOp at *
  simp only [hj] at *
  split
  · rename_i hw
    simp only [hw, if_true] at h
    rcases h with h | ⟨_, _, _, hf⟩
    case inr => exact (hf : False).elim
    refine .inl ?_
    unfold Oper.wp at *
    generalize (execOp a.eval oj).run P w = r at *
    cases r with
    | ok n w' =>
      cases n <;> simp only [Oper.upon] at h ⊢
      case value u => exact ⟨⟨a.defers, u, rfl⟩, h⟩
      case skip => exact ⟨⟨a.defers, undef, rfl⟩, h⟩
      case defer d => exact ⟨⟨d :: a.defers, undef, rfl⟩, h⟩
      case enter f args =>
        refine Calls.mono h fun e w'' he => ?_
        cases e with
        | returned u => exact ⟨⟨a.defers, u, rfl⟩, he⟩
        | panicked c => exact he
        | outgrown => exact he
      case row row args => exact Rows.mono h fun u w'' he => ⟨⟨a.defers, u, rfl⟩, he⟩
    | halt x w' =>
      cases x <;> simp only [Oper.upon] at h ⊢
      case panic u => exact h
  · rename_i hw
    simp only [hw] at h
    exact ⟨⟨a.defers, undef, rfl⟩, h⟩
/-- it comes to something -/
theorem wpOp_some {j : Nat} {K : Act → World → Prop} {a : Act} {w : World} (h : wpOp P ops NoOut j K a w) : ∃ a' w', K a' w' := by
  unfold wpOp at h
  split at h
  · exact ⟨a, w, h⟩
  · rename_i o ho
    split at h
    · rcases h with h | ⟨_, _, _, hf⟩
      · unfold Oper.wp at h
        generalize (execOp a.eval o).run P w = r at *
        cases r with
        | ok n w' =>
          cases n <;> simp only [Oper.upon] at h <;> first
            | exact ⟨_, _, h⟩
            | exact h.elim
            | (obtain ⟨e, w'', fr, he, _⟩ := h []
               cases e with
               | returned v => exact ⟨_, _, he⟩
               | panicked c => exact (he : False).elim
               | outgrown => obtain ⟨_, _, hf⟩ := he; exact (hf : False).elim)
            | (obtain ⟨v, w'', he, _⟩ := h default []
               exact ⟨_, _, he⟩)
        | halt x w' => cases x <;> simp only [Oper.upon] at h <;> exact (h : False).elim
      · exact (hf : False).elim
    · exact ⟨_, _, h⟩
/-- a loud operation with another's value already in its slot -/
theorem wpOp_after {k : Nat} {ok oj : Oper} {v : Value} (hk : ops[k]? = some ok) (hap : oj.apart ops ok = true) (hsk : ∀ cs b, ok.op ≠ .select cs b)
    {K1 K2 : Act → World → Prop} {a : Act} {w : World} (h : wpOp P ops NoOut k K1 a w) (hK : ∀ a' w', K1 a' w' → K2 (a'.put oj.dst v) w') : wpOp P ops NoOut k K2 (a.put oj.dst v) w := by
  obtain ⟨h1, h2, h3⟩ := Oper.apart_spec hap
  unfold wpOp at *
  simp only [hk] at *
  rw [wanted_put ok a oj.dst v h1]
  split
  · rename_i hw
    simp only [hw, if_true] at h
    rcases h with h | ⟨_, _, _, hf⟩
    case inr => exact (hf : False).elim
    refine .inl ?_
    unfold Oper.wp at *
    rw [execOp_put ok hsk a oj.dst v h1]
    generalize (execOp a.eval ok).run P w = r at *
    cases r with
    | ok n w' =>
      cases n <;> simp only [Oper.upon] at h ⊢
      case value u => rw [Act.put_comm a v u h2]; exact hK _ _ h
      case skip => rw [Act.put_comm a v undef h2]; exact hK _ _ h
      case defer d => rw [Act.put_defers, Act.put_comm _ v undef h2]; exact hK _ _ h
      case enter f args =>
        refine Calls.mono h fun e w'' he => ?_
        cases e with
        | returned u => show K2 ((a.put oj.dst v).put ok.dst u) w''; rw [Act.put_comm a v u h2]; exact hK _ _ he
        | panicked c => exact he
        | outgrown => exact he
      case row row args => exact Rows.mono h fun u w'' he => by rw [Act.put_comm a v u h2]; exact hK _ _ he
    | halt x w' =>
      cases x <;> simp only [Oper.upon] at h ⊢
      case panic u => exact h
  · rename_i hw
    simp only [hw] at h
    rw [Act.put_comm a v undef h2]; exact hK _ _ h

/-! ### whatever order is picked -/
def stepR (P : Program) (ops : Array Oper) (ex : List Nat) (j : Nat) (K : Act → World → Prop) (a : Act) (w : World) : Prop :=
  match ops[j]? with
  | none => K a w
  | some o => match clsAt ex j o with
    | 0 => ∃ v, Yields P ops o v a ∧ K (a.put o.dst v) w
    | 1 => ∃ v, ReadsAt P ops o v a w ∧ K (a.put o.dst v) w
    | _ => wpOp P ops NoOut j K a w
theorem stepR_mono {j : Nat} {K K' : Act → World → Prop} {a : Act} {w : World} (h : ∀ a w, K a w → K' a w) (hs : stepR P ops ex j K a w) : stepR P ops ex j K' a w := by
  unfold stepR at *
  split
  · exact h _ _ (by simpa [*] using hs)
  · rename_i o ho
    simp only [ho] at hs
    split at hs
    · obtain ⟨v, h1, h2⟩ := hs; exact ⟨v, h1, h _ _ h2⟩
    · obtain ⟨v, h1, h2⟩ := hs; exact ⟨v, h1, h _ _ h2⟩
    · exact wpOp_mono h hs
theorem stepR_wpOp {j : Nat} {K : Act → World → Prop} {a : Act} {w : World} {Q : Exit → Act → World → Prop} (hs : stepR P ops ex j K a w) : wpOp P ops Q j K a w := by
  unfold stepR at hs
  split at hs
  · rename_i ho; unfold wpOp; simpa [ho] using hs
  · rename_i o ho
    split at hs
    · obtain ⟨v, h1, h2⟩ := hs; exact h1.wpOp ho h2
    · obtain ⟨v, h1, h2⟩ := hs; exact h1.wpOp ho h2
    · exact wpOp_noOut hs

def wpAnyR (P : Program) (ops : Array Oper) (ex : List Nat) (Q : Act → World → Prop) : Nat → Array Bool → Act → World → Prop
  | 0, listed, a, w => Region.ready .any ops listed = [] ∧ Q a w
  | f + 1, listed, a, w => (Region.ready .any ops listed = [] → Q a w) ∧ ∀ i ∈ Region.ready .any ops listed, stepR P ops ex i (wpAnyR P ops ex Q f (listed.setIfInBounds i true)) a w
theorem wpAny_of_R {Q : Exit → Act → World → Prop} : ∀ (f : Nat) (listed : Array Bool) (a : Act) (w : World), wpAnyR P ops ex (Q .normal) f listed a w → wpAny P .any ops Q f listed a w
  | 0, _, _, _, h => h
  | f + 1, _, _, _, h => ⟨h.1, fun i hi => wpOp_mono (fun a w => wpAny_of_R f _ a w) (stepR_wpOp (h.2 i hi))⟩

def Closed (ops : Array Oper) (listed : Array Bool) : Prop :=
  ∀ j oj, ops[j]? = some oj → listed.getD j false = true → ∀ e ∈ oj.after, Region.binds .any e = true → listed.getD e.on false = true
theorem Closed.set {listed : Array Bool} {i : Nat} (h : Closed ops listed) (hi : i ∈ Region.ready .any ops listed) : Closed ops (listed.setIfInBounds i true) := by
  obtain ⟨_, oi, hoi, hall⟩ := mem_ready.1 hi
  intro j oj hj hl e he hb
  by_cases hij : i = j
  · subst hij
    have : oj = oi := Option.some.inj (hj.symm.trans hoi)
    subst this
    exact getD_set_true (hall e he hb)
  · rw [getD_set_ne false hij] at hl
    exact getD_set_true (h j oj hj hl e he hb)

/-! ### all that comes ahead -/
def BInv (ops : Array Oper) (acc : Array Nat) (n : Nat) : Prop :=
  acc.size = n ∧ ∀ j i, (acc.getD j 0).testBit i = true → ∃ oj e, ops[j]? = some oj ∧ e ∈ oj.after ∧ Region.binds .any e = true ∧ (e.on = i ∨ (e.on < j ∧ (acc.getD e.on 0).testBit i = true))
theorem inner_bits (acc : Array Nat) (i : Nat) : ∀ (l : List Edge) (s : Nat), (l.foldl (fun s e => if Region.binds .any e then s ||| 2 ^ e.on ||| acc.getD e.on 0 else s) s).testBit i = true →
    s.testBit i = true ∨ ∃ e ∈ l, Region.binds .any e = true ∧ (e.on = i ∨ (acc.getD e.on 0).testBit i = true)
  | [], s, h => .inl h
  | e :: l, s, h => by
    simp only [List.foldl_cons] at h
    rcases inner_bits acc i l _ h with h1 | ⟨e', he', hr⟩
    · by_cases hb : Region.binds .any e = true
      · simp only [hb, if_true, Nat.testBit_or, Bool.or_eq_true] at h1
        rcases h1 with (h1 | h1) | h1
        · exact .inl h1
        · rw [Nat.testBit_two_pow] at h1
          exact .inr ⟨e, by simp, hb, .inl (by simpa using h1)⟩
        · exact .inr ⟨e, by simp, hb, .inr h1⟩
      · simp only [hb] at h1
        exact .inl h1
    · exact .inr ⟨e', by simp [he'], hr⟩
theorem binv_all : ∀ (rest pre : List Oper) (acc : Array Nat), ops.toList = pre ++ rest → BInv ops acc pre.length →
    BInv ops (rest.foldl (fun acc o => acc.push (o.after.foldl (fun s e => if Region.binds .any e then s ||| 2 ^ e.on ||| acc.getD e.on 0 else s) 0)) acc) ops.size
  | [], pre, acc, hl, h => by
    have : pre.length = ops.size := by rw [← Array.length_toList, hl]; simp
    simpa [this] using h
  | o :: rest, pre, acc, hl, h => by
    simp only [List.foldl_cons]
    refine binv_all rest (pre ++ [o]) _ (by simp [hl]) ?_
    obtain ⟨hs, hp⟩ := h
    refine ⟨by simp [hs], fun j i hb => ?_⟩
    have old : ∀ x, x < acc.size → ∀ v, (acc.push v).getD x 0 = acc.getD x 0 := fun x hx v => by
      simp [Array.getElem?_push, Nat.ne_of_lt hx]
    by_cases hj : j < acc.size
    · rw [old j hj] at hb
      obtain ⟨oj, e, h1, h2, h3, h4⟩ := hp j i hb
      refine ⟨oj, e, h1, h2, h3, h4.imp id fun ⟨h5, h6⟩ => ⟨h5, by rw [old _ (by omega)]; exact h6⟩⟩
    · by_cases hje : j = acc.size
      · subst hje
        have hv : ∀ v, (acc.push v).getD acc.size 0 = v := fun v => by simp
        rw [hv] at hb
        rw [← Array.foldl_toList] at hb
        have ho : ops[acc.size]? = some o := by
          rw [← Array.getElem?_toList, hl, hs]; simp
        rcases inner_bits acc i _ _ hb with h1 | ⟨e, he, hbd, hr⟩
        · simp at h1
        · refine ⟨o, e, ho, by simpa using he, hbd, hr.imp id fun h6 => ?_⟩
          have hlt : e.on < acc.size := by
            rcases Nat.lt_or_ge e.on acc.size with h | h
            · exact h
            · simp [Array.getElem?_eq_none h] at h6
          exact ⟨hlt, by rw [old _ hlt]; exact h6⟩
      · have : (acc.push (o.after.foldl (fun s e => if Region.binds .any e then s ||| 2 ^ e.on ||| acc.getD e.on 0 else s) 0)).getD j 0 = 0 := by
          rw [Array.getD_eq_getD_getElem?, Array.getElem?_eq_none (by simp; omega)]; rfl
        rw [this] at hb; simp at hb
theorem before_spec (j i : Nat) (h : ((Region.before ops).getD j 0).testBit i = true) :
    ∃ oj e, ops[j]? = some oj ∧ e ∈ oj.after ∧ Region.binds .any e = true ∧ (e.on = i ∨ (e.on < j ∧ ((Region.before ops).getD e.on 0).testBit i = true)) := by
  have hb := (binv_all (ops := ops) ops.toList [] #[] (by simp) ⟨rfl, fun j i h => by simp at h⟩).2
  have he : Region.before ops = ops.toList.foldl (fun acc o => acc.push (o.after.foldl (fun s e => if Region.binds .any e then s ||| 2 ^ e.on ||| acc.getD e.on 0 else s) 0)) #[] := by
    unfold Region.before
    rw [← Array.foldl_toList]
  rw [he] at h ⊢
  exact hb j i h
def reachB (ops : Array Oper) (i j : Nat) : Bool := ((Region.before ops).getD j 0).testBit i
theorem reach_listed {listed : Array Bool} (hc : Closed ops listed) {i : Nat} : ∀ (j : Nat), reachB ops i j = true →
    (∀ oj, ops[j]? = some oj → ∀ e ∈ oj.after, Region.binds .any e = true → listed.getD e.on false = true) → listed.getD i false = true := by
  intro j
  induction j using Nat.strongRecOn with
  | _ j ih =>
    intro hr hl
    obtain ⟨oj, e, hoj, he, hb, hor⟩ := before_spec j i hr
    have h1 := hl oj hoj e he hb
    rcases hor with rfl | ⟨hlt, hbit⟩
    · exact h1
    · exact ih e.on hlt hbit fun oe hoe e' he' hb' => hc _ oe hoe h1 e' he' hb'
theorem not_ready_of_reach {listed : Array Bool} (hc : Closed ops listed) {i j : Nat} (hi : listed.getD i false = false) (hr : reachB ops i j = true) : j ∉ Region.ready .any ops listed := fun hj => by
  obtain ⟨_, oj, hoj, hall⟩ := mem_ready.1 hj
  have := reach_listed hc j hr fun oj' h' e he hb => by
    have : oj' = oj := Option.some.inj (h'.symm.trans hoj)
    subst this
    exact hall e he hb
  rw [hi] at this; cases this
theorem getD_of_ready {listed : Array Bool} {i : Nat} (h : listed.getD i true = false) : listed.getD i false = false := by
  rcases Nat.lt_or_ge i listed.size with h' | h'
  · simp [h'] at h ⊢; exact h
  · simp [Array.getElem?_eq_none h'] at h

def Waits (ops : Array Oper) (k j : Nat) : Prop := ∃ oj, ops[j]? = some oj ∧ ∃ e ∈ oj.after, Region.binds .any e = true ∧ e.on = k
theorem not_ready_of_waits {listed : Array Bool} {k j : Nat} (hk : listed.getD k true = false) (h : Waits ops k j) : j ∉ Region.ready .any ops listed := fun hj => by
  obtain ⟨_, oj, hoj, hall⟩ := mem_ready.1 hj
  obtain ⟨oj', h', e, he, hb, hon⟩ := h
  have : oj' = oj := Option.some.inj (h'.symm.trans hoj)
  subst this
  have := hall e he hb
  rw [hon, getD_of_ready hk] at this
  cases this

/-! ### an operation that only reckons may be taken first -/
theorem stepR_put0 {j : Nat} {oi oj : Oper} {v : Value} (hj : ops[j]? = some oj) (hap : oi.apart ops oj = true) (hsi : ∀ cs b, oi.op ≠ .select cs b) (hsj : ∀ cs b, oj.op ≠ .select cs b)
    {K : Act → World → Prop} {a : Act} {w : World} (hy : Yields P ops oi v a) (h : stepR P ops ex j K (a.put oi.dst v) w) :
    stepR P ops ex j (fun a' w' => Yields P ops oi v a' ∧ K (a'.put oi.dst v) w') a w := by
  obtain ⟨h1, h2, h3⟩ := Oper.apart_spec hap
  have keep : ∀ u, Yields P ops oi v (a.put oj.dst u) := fun u => hy.of_same (execOp_put oi hsi a oj.dst u h3) (wanted_put oi a oj.dst u h3)
  unfold stepR at *
  simp only [hj] at h ⊢
  split at h
  · obtain ⟨u, g1, g2⟩ := h
    exact ⟨u, g1.of_same (execOp_put oj hsj a oi.dst v h1).symm (wanted_put oj a oi.dst v h1).symm, keep u, by rw [← Act.put_comm a v u h2]; exact g2⟩
  · obtain ⟨u, g1, g2⟩ := h
    exact ⟨u, g1.of_same (execOp_put oj hsj a oi.dst v h1).symm (wanted_put oj a oi.dst v h1).symm, keep u, by rw [← Act.put_comm a v u h2]; exact g2⟩
  · exact wpOp_put hj hap hsi hsj (fun _ _ _ h => h) hy h
theorem R_first0 {Q : Act → World → Prop} {i : Nat} {oi : Oper} {v : Value} (hi : ops[i]? = some oi) (hcl : clsAt ex i oi = 0) (hsel : ∀ (j : Nat) (o : Oper) cs b, ops[j]? = some o → o.op ≠ .select cs b) :
    ∀ (f : Nat) (listed : Array Bool) (a : Act) (w : World), Closed ops listed →
      (∀ j oj, ops[j]? = some oj → j ≠ i → listed.getD j true = false → Waits ops i j ∨ reachB ops i j = true ∨ oi.apart ops oj = true) →
      i ∈ Region.ready .any ops listed → Yields P ops oi v a → wpAnyR P ops ex Q f (listed.setIfInBounds i true) (a.put oi.dst v) w → wpAnyR P ops ex Q (f + 1) listed a w := by
  intro f
  have at_i : ∀ {K : Act → World → Prop} {a : Act} {w : World}, Yields P ops oi v a → K (a.put oi.dst v) w → stepR P ops ex i K a w := fun hy H => by
    unfold stepR; simp only [hi, hcl]; exact ⟨v, hy, H⟩
  induction f with
  | zero =>
    intro listed a w _ _ hr hy H
    refine ⟨fun h => (by rw [h] at hr; cases hr), fun j hj => ?_⟩
    by_cases hji : j = i
    · subst hji; exact at_i hy H
    · have := ready_mono hj hji
      rw [H.1] at this; cases this
  | succ f ih =>
    intro listed a w hc hfree hr hy H
    refine ⟨fun h => (by rw [h] at hr; cases hr), fun j hj => ?_⟩
    by_cases hji : j = i
    · subst hji; exact at_i hy H
    · have h1 := H.2 j (ready_mono hj hji)
      obtain ⟨hjun, oj, hoj, hall⟩ := mem_ready.1 hj
      have hiun := (mem_ready.1 hr).1
      have hap : oi.apart ops oj = true := by
        rcases hfree j oj hoj hji hjun with h | h | h
        · exact absurd hj (not_ready_of_waits hiun h)
        · exact absurd hj (not_ready_of_reach hc (getD_of_ready hiun) h)
        · exact h
      have h2 := stepR_put0 hoj hap (fun cs b => hsel i oi cs b hi) (fun cs b => hsel j oj cs b hoj) hy h1
      refine stepR_mono (fun a' w' h3 => ih (listed.setIfInBounds j true) a' w' (hc.set hj) ?_ (ready_mono hr (Ne.symm hji)) h3.1 ?_) h2
      · intro k ok hk hki hun
        refine hfree k ok hk hki ?_
        by_cases hjk : j = k
        · subst hjk; exact hjun
        · rw [getD_set_ne true hjk] at hun; exact hun
      · rw [Array.setIfInBounds_comm _ _ hji]
        exact h3.2

/-! ### a load may be taken first, ahead of what only reckons and of other loads -/
theorem stepR_put1 {j : Nat} {oi oj : Oper} {v : Value} (hj : ops[j]? = some oj) (hcj : clsAt ex j oj = 0 ∨ clsAt ex j oj = 1) (hap : oi.apart ops oj = true) (hsi : ∀ cs b, oi.op ≠ .select cs b) (hsj : ∀ cs b, oj.op ≠ .select cs b)
    {K : Act → World → Prop} {a : Act} {w : World} (hy : ReadsAt P ops oi v a w) (h : stepR P ops ex j K (a.put oi.dst v) w) :
    stepR P ops ex j (fun a' w' => ReadsAt P ops oi v a' w' ∧ K (a'.put oi.dst v) w') a w := by
  obtain ⟨h1, h2, h3⟩ := Oper.apart_spec hap
  have keep : ∀ u, ReadsAt P ops oi v (a.put oj.dst u) w := fun u => hy.of_same (execOp_put oi hsi a oj.dst u h3) (wanted_put oi a oj.dst u h3)
  unfold stepR at *
  simp only [hj] at h ⊢
  rcases hcj with hcj | hcj <;> simp only [hcj] at h ⊢
  · obtain ⟨u, g1, g2⟩ := h
    exact ⟨u, g1.of_same (execOp_put oj hsj a oi.dst v h1).symm (wanted_put oj a oi.dst v h1).symm, keep u, by rw [← Act.put_comm a v u h2]; exact g2⟩
  · obtain ⟨u, g1, g2⟩ := h
    exact ⟨u, g1.of_same (execOp_put oj hsj a oi.dst v h1).symm (wanted_put oj a oi.dst v h1).symm, keep u, by rw [← Act.put_comm a v u h2]; exact g2⟩
theorem R_first1 {Q : Act → World → Prop} {i : Nat} {oi : Oper} {v : Value} (hi : ops[i]? = some oi) (hcl : clsAt ex i oi = 1) (hsel : ∀ (j : Nat) (o : Oper) cs b, ops[j]? = some o → o.op ≠ .select cs b) :
    ∀ (f : Nat) (listed : Array Bool) (a : Act) (w : World), Closed ops listed →
      (∀ j oj, ops[j]? = some oj → j ≠ i → listed.getD j true = false → Waits ops i j ∨ reachB ops i j = true ∨ (oi.apart ops oj = true ∧ (clsAt ex j oj = 0 ∨ clsAt ex j oj = 1))) →
      i ∈ Region.ready .any ops listed → ReadsAt P ops oi v a w → wpAnyR P ops ex Q f (listed.setIfInBounds i true) (a.put oi.dst v) w → wpAnyR P ops ex Q (f + 1) listed a w := by
  intro f
  have at_i : ∀ {K : Act → World → Prop} {a : Act} {w : World}, ReadsAt P ops oi v a w → K (a.put oi.dst v) w → stepR P ops ex i K a w := fun hy H => by
    unfold stepR; simp only [hi, hcl]; exact ⟨v, hy, H⟩
  induction f with
  | zero =>
    intro listed a w _ _ hr hy H
    refine ⟨fun h => (by rw [h] at hr; cases hr), fun j hj => ?_⟩
    by_cases hji : j = i
    · subst hji; exact at_i hy H
    · have := ready_mono hj hji
      rw [H.1] at this; cases this
  | succ f ih =>
    intro listed a w hc hfree hr hy H
    refine ⟨fun h => (by rw [h] at hr; cases hr), fun j hj => ?_⟩
    by_cases hji : j = i
    · subst hji; exact at_i hy H
    · have h1 := H.2 j (ready_mono hj hji)
      obtain ⟨hjun, oj, hoj, hall⟩ := mem_ready.1 hj
      have hiun := (mem_ready.1 hr).1
      have hap : oi.apart ops oj = true ∧ (clsAt ex j oj = 0 ∨ clsAt ex j oj = 1) := by
        rcases hfree j oj hoj hji hjun with h | h | h
        · exact absurd hj (not_ready_of_waits hiun h)
        · exact absurd hj (not_ready_of_reach hc (getD_of_ready hiun) h)
        · exact h
      have h2 := stepR_put1 hoj hap.2 hap.1 (fun cs b => hsel i oi cs b hi) (fun cs b => hsel j oj cs b hoj) hy h1
      refine stepR_mono (fun a' w' h3 => ih (listed.setIfInBounds j true) a' w' (hc.set hj) ?_ (ready_mono hr (Ne.symm hji)) h3.1 ?_) h2
      · intro k ok hk hki hun
        refine hfree k ok hk hki ?_
        by_cases hjk : j = k
        · subst hjk; exact hjun
        · rw [getD_set_ne true hjk] at hun; exact hun
      · rw [Array.setIfInBounds_comm _ _ hji]
        exact h3.2

/-! ### what is loud may be taken first, ahead of what only reckons -/
theorem R_late {Q : Act → World → Prop} {k : Nat} {ok : Oper} (hk : ops[k]? = some ok) (hcl : clsAt ex k ok = 2) (hsel : ∀ (j : Nat) (o : Oper) cs b, ops[j]? = some o → o.op ≠ .select cs b) :
    ∀ (f : Nat) (listed : Array Bool) (a : Act) (w : World), Closed ops listed →
      (∀ j oj, ops[j]? = some oj → j ≠ k → listed.getD j true = false → Waits ops k j ∨ reachB ops k j = true ∨ (oj.apart ops ok = true ∧ clsAt ex j oj = 0)) →
      k ∈ Region.ready .any ops listed → wpOp P ops NoOut k (wpAnyR P ops ex Q f (listed.setIfInBounds k true)) a w → wpAnyR P ops ex Q (f + 1) listed a w := by
  intro f
  have at_k : ∀ {K : Act → World → Prop} {a : Act} {w : World}, wpOp P ops NoOut k K a w → stepR P ops ex k K a w := fun H => by
    unfold stepR; simp only [hk, hcl]; exact H
  induction f with
  | zero =>
    intro listed a w _ _ hr H
    refine ⟨fun h => (by rw [h] at hr; cases hr), fun j hj => ?_⟩
    by_cases hji : j = k
    · subst hji; exact at_k H
    · obtain ⟨a', w', h⟩ := wpOp_some H
      have := ready_mono hj hji
      rw [h.1] at this; cases this
  | succ f ih =>
    intro listed a w hc hfree hr H
    refine ⟨fun h => (by rw [h] at hr; cases hr), fun j hj => ?_⟩
    by_cases hji : j = k
    · subst hji; exact at_k H
    · obtain ⟨hjun, oj, hoj, hall⟩ := mem_ready.1 hj
      have hkun := (mem_ready.1 hr).1
      have hap : oj.apart ops ok = true ∧ clsAt ex j oj = 0 := by
        rcases hfree j oj hoj hji hjun with h | h | h
        · exact absurd hj (not_ready_of_waits hkun h)
        · exact absurd hj (not_ready_of_reach hc (getD_of_ready hkun) h)
        · exact h
      obtain ⟨hap, hc0⟩ := hap
      obtain ⟨h1, h2, h3⟩ := Oper.apart_spec hap
      have hsj := fun cs b => hsel j oj cs b hoj
      -- a frame behind k: j yields there just what it yields here
      have same : ∀ (a' : Act) (v : Value), From ok a a' → (Yields P ops oj v a' ↔ Yields P ops oj v a) := by
        rintro a' v ⟨ds, u, rfl⟩
        have e1 : execOp ((({ a with defers := ds } : Act).put ok.dst u).eval) oj = execOp a.eval oj := execOp_put oj hsj { a with defers := ds } ok.dst u h3
        have e2 : Region.wanted oj (yielded ops (({ a with defers := ds } : Act).put ok.dst u).tmps) = Region.wanted oj (yielded ops a.tmps) := wanted_put oj { a with defers := ds } ok.dst u h3
        exact ⟨fun h => h.of_same e1.symm e2.symm, fun h => h.of_same e1 e2⟩
      have H' := wpOp_from hk H
      obtain ⟨a1, w1, hf1, hA⟩ := wpOp_some H'
      have hj1 := hA.2 j (ready_mono hj hji)
      unfold stepR at hj1
      simp only [hoj, hc0] at hj1
      obtain ⟨v, hy1, -⟩ := hj1
      have hy : Yields P ops oj v a := (same a1 v hf1).1 hy1
      unfold stepR
      simp only [hoj, hc0]
      refine ⟨v, hy, ih (listed.setIfInBounds j true) (a.put oj.dst v) w (hc.set hj) ?_ (ready_mono hr (Ne.symm hji)) ?_⟩
      · intro i oi hi hik hun
        refine hfree i oi hi hik ?_
        by_cases hji' : j = i
        · subst hji'; exact hjun
        · rw [getD_set_ne true hji'] at hun; exact hun
      · refine wpOp_after hk hap (fun cs b => hsel k ok cs b hk) H' fun a' w' ⟨hf, hA'⟩ => ?_
        have hj2 := hA'.2 j (ready_mono hj hji)
        unfold stepR at hj2
        simp only [hoj, hc0] at hj2
        obtain ⟨v', hy', hK⟩ := hj2
        have : v = v' := yields_unique hy ((same a' v' hf).1 hy')
        subst this
        rw [Array.setIfInBounds_comm _ _ hji]
        exact hK

/-! ### the order of the text -/
def okPair (ops : Array Oper) (ex : List Nat) (k j : Nat) : Bool :=
  match ops[k]?, ops[j]? with
  | some ok, some oj =>
    oj.after.any (fun e => Region.binds .any e && e.on == k) || reachB ops k j ||
      (match clsAt ex k ok with
       | 0 => ok.apart ops oj
       | 1 => ok.apart ops oj && (clsAt ex j oj == 0 || clsAt ex j oj == 1)
       | _ => oj.apart ops ok && clsAt ex j oj == 0)
  | _, _ => false
def lexGo (ops : Array Oper) (ex : List Nat) : Nat → Nat → Array Bool → Bool
  | 0, _, listed => (Region.ready .any ops listed).isEmpty
  | f + 1, k, listed => (Region.ready .any ops listed).contains k && (List.range ops.size).all (fun j => decide (j ≤ k) || okPair ops ex k j) && lexGo ops ex f (k + 1) (listed.setIfInBounds k true)
def lexOk (ex : List Nat) (ops : Array Oper) : Bool := Region.noSelect ops && lexGo ops ex ops.size 0 (Array.replicate ops.size false)

/-- the walk in the order of the text -/
def wpLex (P : Program) (ops : Array Oper) (ex : List Nat) (Q : Act → World → Prop) : Nat → List Oper → Act → World → Prop
  | _, [], a, w => Q a w
  | k, o :: rest, a, w =>
    match clsAt ex k o with
    | 0 => ∃ v, Yields P ops o v a ∧ wpLex P ops ex Q (k + 1) rest (a.put o.dst v) w
    | 1 => ∃ v, ReadsAt P ops o v a w ∧ wpLex P ops ex Q (k + 1) rest (a.put o.dst v) w
    | _ => if Region.wanted o (yielded ops a.tmps) then o.wp P a w (wpLex P ops ex Q (k + 1) rest) NoOut else wpLex P ops ex Q (k + 1) rest (a.put o.dst undef) w

theorem clsAt_cases (ex : List Nat) (k : Nat) (o : Oper) : clsAt ex k o = 0 ∨ clsAt ex k o = 1 ∨ clsAt ex k o = 2 := by
  unfold clsAt
  split
  · simp
  · unfold lexClass
    split <;> first | simp | (split <;> simp)

theorem R_lex {Q : Act → World → Prop} (hs : Region.noSelect ops = true) : ∀ (l : List Oper) (k : Nat) (listed : Array Bool) (a : Act) (w : World), (∀ j, l[j]? = ops[k + j]?) →
    (∀ j, j < k → listed.getD j true = true) → Closed ops listed → lexGo ops ex l.length k listed = true → wpLex P ops ex Q k l a w → wpAnyR P ops ex Q l.length listed a w
  | [], _, _, _, _, _, _, _, hB, h => ⟨by simpa [lexGo] using hB, h⟩
  | o :: l, k, listed, a, w, hl, hlow, hc, hB, h => by
    have h0 : ops[k]? = some o := by simpa using (hl 0).symm
    simp only [List.length_cons, lexGo, Bool.and_eq_true, List.all_eq_true, List.mem_range, Bool.or_eq_true, decide_eq_true_eq] at hB
    obtain ⟨⟨hr, hf⟩, hB'⟩ := hB
    have hr' : k ∈ Region.ready .any ops listed := by simpa using hr
    have hsel := Region.noSelect_spec hs
    have pair : ∀ j oj, ops[j]? = some oj → j ≠ k → listed.getD j true = false → okPair ops ex k j = true := fun j oj hj hne hun => by
      have hlt : j < ops.size := (Array.getElem?_eq_some_iff.1 hj).1
      rcases hf j hlt with h | h
      · have := hlow j (by omega)
        rw [hun] at this; cases this
      · exact h
    have wt : ∀ j oj, ops[j]? = some oj → oj.after.any (fun e => Region.binds .any e && e.on == k) = true → Waits ops k j := fun j oj hj h => by
      obtain ⟨e, he, hb⟩ := Array.any_eq_true'.1 h
      simp only [Bool.and_eq_true, beq_iff_eq] at hb
      exact ⟨oj, hj, e, he, hb.1, hb.2⟩
    have hlow' : ∀ j, j < k + 1 → (listed.setIfInBounds k true).getD j true = true := fun j hj => by
      by_cases e : k = j
      · subst e
        rcases Nat.lt_or_ge k listed.size with h' | h'
        · simp [h']
        · simp [h']
      · rw [getD_set_ne true e]; exact hlow j (by omega)
    have next := fun a w => R_lex (Q := Q) hs l (k + 1) (listed.setIfInBounds k true) a w (fun j => by have := hl (j + 1); simpa [Nat.add_assoc, Nat.add_comm 1 j] using this) hlow' (hc.set hr') hB'
    rcases clsAt_cases ex k o with hcl | hcl | hcl <;> simp only [wpLex, hcl] at h
    · obtain ⟨v, hy, hK⟩ := h
      refine R_first0 h0 hcl hsel l.length listed a w hc (fun j oj hj hne hun => ?_) hr' hy (next _ _ hK)
      have := pair j oj hj hne hun
      simp only [okPair, h0, hj, hcl, Bool.or_eq_true] at this
      rcases this with (h | h) | h
      · exact .inl (wt j oj hj h)
      · exact .inr (.inl h)
      · exact .inr (.inr h)
    · obtain ⟨v, hy, hK⟩ := h
      refine R_first1 h0 hcl hsel l.length listed a w hc (fun j oj hj hne hun => ?_) hr' hy (next _ _ hK)
      have := pair j oj hj hne hun
      simp only [okPair, h0, hj, hcl, Bool.or_eq_true, Bool.and_eq_true, beq_iff_eq] at this
      rcases this with (h | h) | h
      · exact .inl (wt j oj hj h)
      · exact .inr (.inl h)
      · exact .inr (.inr h)
    · refine R_late h0 hcl hsel l.length listed a w hc (fun j oj hj hne hun => ?_) hr' ?_
      · have := pair j oj hj hne hun
        simp only [okPair, h0, hj, hcl, Bool.or_eq_true, Bool.and_eq_true, beq_iff_eq] at this
        rcases this with (h | h) | h
        · exact .inl (wt j oj hj h)
        · exact .inr (.inl h)
        · exact .inr (.inr h)
      · unfold wpOp
        simp only [h0]
        split
        · rename_i hw
          rw [if_pos hw] at h
          exact .inl (Oper.wp_mono (fun a w h => next a w h) h)
        · rename_i hw
          rw [if_neg hw] at h
          exact next _ _ h

/-- A REGION THAT DRAWS ITS ORDER, WALKED IN THE ORDER OF THE TEXT. -/
theorem wp_region_lex {id : Nat} {Q : Exit → Act → World → Prop} {a : Act} {w : World} {l : List Oper} (ex : List Nat) (hm : P.follows .mixedOrders = true) (hB : lexOk ex l.toArray = true)
    (h : wpLex P l.toArray ex (Q .normal) 0 l a w.drew) : (Code.region id l.toArray true).wp P Q a w := by
  simp only [lexOk, Bool.and_eq_true] at hB
  refine wp_region_any hm (wpAny_of_R (ex := ex) _ _ _ _ ?_)
  have := R_lex (P := P) (ex := ex) (Q := Q .normal) hB.1 l 0 (Array.replicate l.toArray.size false) a w.drew (by simp) (fun j hj => by omega) (fun j oj _ hl => (by rw [getD_replicate_false] at hl; cases hl)) (by simpa using hB.2) h
  simpa using this

/-! ### step by step -/
section
variable {Q : Act → World → Prop} {k : Nat} {o : Oper} {rest : List Oper} {a : Act} {w : World}
theorem wpLex_nil (h : Q a w) : wpLex P ops ex Q k [] a w := h
theorem wpLex_pure (hc : clsAt ex k o = 0)
    (h : ∀ K : Act → World → Prop, (∀ a w, wpLex P ops ex Q (k + 1) rest a w → K a w) →
      if Region.wanted o (yielded ops a.tmps) then ∃ v, (∀ w', (execOp a.eval o).run P w' = .ok (.value v) w') ∧ K (a.put o.dst v) w else K (a.put o.dst undef) w) : wpLex P ops ex Q k (o :: rest) a w := by
  have := h _ (fun _ _ h => h)
  simp only [wpLex, hc]
  split at this
  · rename_i hw; obtain ⟨v, h1, h2⟩ := this; exact ⟨v, .inl ⟨hw, h1⟩, h2⟩
  · rename_i hw; exact ⟨undef, .inr ⟨by simpa using hw, rfl⟩, this⟩
theorem wpLex_read (hc : clsAt ex k o = 1)
    (h : ∀ K : Act → World → Prop, (∀ a w, wpLex P ops ex Q (k + 1) rest a w → K a w) →
      if Region.wanted o (yielded ops a.tmps) then ∃ v, (execOp a.eval o).run P w = .ok (.value v) w ∧ K (a.put o.dst v) w else K (a.put o.dst undef) w) : wpLex P ops ex Q k (o :: rest) a w := by
  have := h _ (fun _ _ h => h)
  simp only [wpLex, hc]
  split at this
  · rename_i hw; obtain ⟨v, h1, h2⟩ := this; exact ⟨v, .inl ⟨hw, h1⟩, h2⟩
  · rename_i hw; exact ⟨undef, .inr ⟨by simpa using hw, rfl⟩, this⟩
theorem wpLex_loud (hc : clsAt ex k o = 2)
    (h : ∀ K : Act → World → Prop, (∀ a w, wpLex P ops ex Q (k + 1) rest a w → K a w) → wpList P ops (Exit.then K NoOut) [o] a w) : wpLex P ops ex Q k (o :: rest) a w := by
  have := h _ (fun _ _ h => h)
  simp only [wpLex, hc]
  unfold wpList at this
  split at this
  · rename_i hw
    rw [if_pos hw]
    rcases this with h | ⟨_, _, _, hf⟩
    · refine Oper.wp_mono (fun a w h => h) ?_
      unfold Oper.wp at *
      generalize (execOp a.eval o).run P w = r at *
      cases r with
      | ok n w' =>
        cases n <;> simp only [Oper.upon] at h ⊢ <;> first
          | exact h
          | exact Calls.mono h (fun e w'' he => by cases e <;> exact he)
      | halt x w' => cases x <;> simp only [Oper.upon] at h ⊢ <;> exact h
    · exact (hf : False).elim
  · rename_i hw
    rw [if_neg hw]; exact this
/-- a value handed on -/
theorem wpLex_move {x : Operand} (ho : o.op = .move x) (hg : o.guard = none) (hc : clsAt ex k o = 0) (h : wpLex P ops ex Q (k + 1) rest (a.put o.dst (a.eval x)) w) : wpLex P ops ex Q k (o :: rest) a w := by
  simp only [wpLex, hc]
  exact ⟨_, .inl ⟨by simp [Region.wanted, hg], fun w' => by simp only [execOp, ho]; rfl⟩, h⟩
end
end
end Go.Proofs.YtopmdbmnlflpgaaDoor
