/- Layer 26: the queues, and what one Event does to them: See. -/
import Derived.Test.YtlfplikkifjnfaaMdl3
namespace Go.Proofs.Ytlfplikkifjnfaa
open Go.RowKit
@[irreducible] def qC (va : Value) (ta : Int) (vb : Value) (tb : Int) : Array Value := #[va, .int .i64 ta, vb, .int .i64 tb]
theorem qC_def (va : Value) (ta : Int) (vb : Value) (tb : Int) : qC va ta vb tb = #[va, .int .i64 ta, vb, .int .i64 tb] := by unfold qC; rfl
theorem qC_no (va : Value) (ta : Int) (vb : Value) (tb : Int) : (qC va ta vb tb).all isSl = false := by rw [qC_def]; simp [isSl]
theorem QRow.at {w : World} {q : Nat} {va vb : Value} {ta tb : Int} (h : RowIs w q (qC va ta vb tb)) (i : Nat) : w.cell? ⟨q, i, none⟩ = [va, .int .i64 ta, vb, .int .i64 tb][i]? := by
  obtain ⟨t, ht⟩ := h.row.heap
  rw [h.has, qC_def] at ht
  rw [cell_of_row w q i _ t (0, 0) ht]
  simp
theorem grownBy.refl (w : World) (row : Option Nat) : w.grownBy w row := ⟨rfl, rfl, rfl, Nat.le_refl _, fun _ _ _ => rfl⟩
/-- the queues at q: two lists of their own, apart -/
def Qs (w : World) (q base : Nat) (s : BL × BL) : Prop := ∃ va vb ta tb, RowIs w q (qC va ta vb tb) ∧ OwnL w base va s.1 ∧ OwnL w base vb s.2 ∧ base ≤ w.heap.size ∧ ∀ k, va.ownBlock = some k → vb.ownBlock ≠ some k
theorem Qs.step {w w' : World} {q base : Nat} {s : BL × BL} (h : Qs w q base s) (hb : Below w.heap.size w w') : Qs w' q base s := by
  obtain ⟨va, vb, ta, tb, h1, h2, h3, h4, h5⟩ := h
  exact ⟨va, vb, ta, tb, h1.step hb, h2.step hb, h3.step hb, Nat.le_trans h4 hb.size, h5⟩
theorem Qs.lt {w : World} {q base : Nat} {s : BL × BL} (h : Qs w q base s) : base ≤ w.heap.size ∧ q < w.heap.size := by
  obtain ⟨va, vb, ta, tb, h1, h2, h3, h4, h5⟩ := h
  exact ⟨h4, h1.lt⟩
theorem Qs.new {w : World} {q base : Nat} (h : RowIs w q (qC (.slice none 0 0) 0 (.slice none 0 0) 0)) (hb : base ≤ w.heap.size) : Qs w q base ([], []) :=
  ⟨_, _, _, _, h, OwnL.nil _ _, OwnL.nil _ _, hb, fun k e => by cases e⟩
theorem qno8 {w : World} {q : Nat} {va vb : Value} {ta tb : Int} {base : Nat} {a b : BL} (h : RowIs w q (qC va ta vb tb)) (ha : OwnL w base va a) (hb : OwnL w base vb b) : No8 w q := by
  obtain ⟨A, c, rfl, -⟩ := ha.slice
  obtain ⟨B, d, rfl, -⟩ := hb.slice
  exact no8_row h (by rw [qC_def]; simp)
/-- what lies below base stays, but for block q -/
structure UpdQ (q base : Nat) (w w' : World) : Prop where
  os : w'.os = w.os
  tape : w'.tape = w.tape
  output : w'.output = w.output
  size : w.heap.size ≤ w'.heap.size
  block : ∀ k, k < base → k ≠ q → w'.heap[k]? = w.heap[k]?
theorem UpdQ.refl (q base : Nat) (w : World) : UpdQ q base w w := ⟨rfl, rfl, rfl, Nat.le_refl _, fun _ _ _ => rfl⟩
theorem UpdQ.below {q base : Nat} {w w' : World} (h : UpdQ q base w w') (hq : base ≤ q) : Below base w w' := ⟨h.os, h.tape, h.output, h.size, fun k hk => h.block k hk (by omega)⟩
theorem UpdQ.trans {q base : Nat} {a b c : World} (h : UpdQ q base a b) (k : UpdQ q base b c) : UpdQ q base a c :=
  ⟨k.os.trans h.os, k.tape.trans h.tape, k.output.trans h.output, Nat.le_trans h.size k.size, fun i hi hne => (k.block i hi hne).trans (h.block i hi hne)⟩
theorem UpdQ.of {q base : Nat} {w w' : World} (h : Below w.heap.size w w') (hb : base ≤ w.heap.size) : UpdQ q base w w' := ⟨h.os, h.tape, h.output, h.size, fun k hk _ => h.block k (by omega)⟩
theorem UpdQ.pre {q base : Nat} {w w1 w' : World} (h : Below w.heap.size w w1) (hb : base ≤ w.heap.size) (u : UpdQ q base w1 w') : UpdQ q base w w' := (UpdQ.of h hb).trans u
theorem grown_upd {w w1 w' : World} {row : Option Nat} {q base : Nat} (g : w.grownBy w1 row) (u : Upd q w1 w') (hr : ∀ k, row = some k → base ≤ k) (hb : base ≤ w.heap.size) : UpdQ q base w w' :=
  ⟨u.os.trans g.os, u.tape.trans g.tape, u.output.trans g.output, Nat.le_trans g.size u.size, fun k hk hne => (u.block k (Nat.lt_of_lt_of_le (Nat.lt_of_lt_of_le hk hb) g.size) hne).trans (g.block k (by omega) (fun e => by have := hr k e.symm; omega))⟩
/-- the first queue turns -/
theorem Qs.side0 {w w1 w' : World} {q base : Nat} {va va' vb : Value} {ta ta' tb : Int} {a a' b : BL} (R : RowIs w q (qC va ta vb tb)) (ha : OwnL w base va a) (hb : OwnL w base vb b) (hq : base ≤ w.heap.size) (hne : ∀ k, va.ownBlock = some k → vb.ownBlock ≠ some k)
    (g : w.grownBy w1 va.ownBlock) (ha' : OwnL w1 base va' a') (ob : ∀ k, va'.ownBlock = some k → va.ownBlock = some k ∨ w.heap.size ≤ k) (u : Upd q w1 w') (R' : RowIs w' q (qC va' ta' vb tb)) : Qs w' q base (a', b) ∧ UpdQ q base w w' := by
  have hno : ∀ k, va.ownBlock = some k → No8 w k := fun k hk => ha.no8 hk
  have hb1 : OwnL w1 base vb b := hb.grown g hno (fun k hk e => hne k e hk)
  have R1 : RowIs w1 q (qC va ta vb tb) := R.grown g (ha.ne_row R (qC_no _ _ _ _))
  obtain ⟨A, c, e, -⟩ := ha.slice
  obtain ⟨B, d, e', -⟩ := hb.slice
  have hn : No8 w1 q := no8_row R1 (by rw [qC_def, e, e']; simp)
  have hz : base ≤ w'.heap.size := Nat.le_trans hq (Nat.le_trans g.size u.size)
  refine ⟨⟨va', vb, ta', tb, R', ha'.upd u hn (ha'.ne_row R1 (qC_no _ _ _ _)), hb1.upd u hn (hb1.ne_row R1 (qC_no _ _ _ _)), hz, fun k hk e2 => ?_⟩, grown_upd g u (fun k hk => (ha.lt hk).1) hq⟩
  rcases ob k hk with h | h
  · exact hne k h e2
  · have := (hb.lt e2).2; omega
/-- the second queue turns -/
theorem Qs.side1 {w w1 w' : World} {q base : Nat} {va vb vb' : Value} {ta tb tb' : Int} {a b b' : BL} (R : RowIs w q (qC va ta vb tb)) (ha : OwnL w base va a) (hb : OwnL w base vb b) (hq : base ≤ w.heap.size) (hne : ∀ k, va.ownBlock = some k → vb.ownBlock ≠ some k)
    (g : w.grownBy w1 vb.ownBlock) (hb' : OwnL w1 base vb' b') (ob : ∀ k, vb'.ownBlock = some k → vb.ownBlock = some k ∨ w.heap.size ≤ k) (u : Upd q w1 w') (R' : RowIs w' q (qC va ta vb' tb')) : Qs w' q base (a, b') ∧ UpdQ q base w w' := by
  have hno : ∀ k, vb.ownBlock = some k → No8 w k := fun k hk => hb.no8 hk
  have ha1 : OwnL w1 base va a := ha.grown g hno (fun k hk => hne k hk)
  have R1 : RowIs w1 q (qC va ta vb tb) := R.grown g (hb.ne_row R (qC_no _ _ _ _))
  obtain ⟨A, c, e, -⟩ := ha.slice
  obtain ⟨B, d, e', -⟩ := hb.slice
  have hn : No8 w1 q := no8_row R1 (by rw [qC_def, e, e']; simp)
  have hz : base ≤ w'.heap.size := Nat.le_trans hq (Nat.le_trans g.size u.size)
  refine ⟨⟨va, vb', ta, tb', R', ha1.upd u hn (ha1.ne_row R1 (qC_no _ _ _ _)), hb'.upd u hn (hb'.ne_row R1 (qC_no _ _ _ _)), hz, fun k hk e2 => ?_⟩, grown_upd g u (fun k hk => (hb.lt hk).1) hq⟩
  rcases ob k e2 with h | h
  · exact hne k hk h
  · have := (ha.lt hk).2; omega
/-- what taking does -/
def takeP (u : List UInt8) : BL → Bool × BL
  | [] => (false, [])
  | m :: r => if m = u then (true, r) else (false, m :: r)
/-- what an Event does -/
def seeP (d who code : Int) (x : List UInt8) (s : BL × BL) : Bool × (BL × BL) :=
  if tellsB d who code then
    if d = 6 then (if who = 0 then ((takeP x s.2).1, (s.1, (takeP x s.2).2)) else ((takeP x s.1).1, ((takeP x s.1).2, s.2)))
    else (if who = 0 then (true, (s.1 ++ [x], s.2)) else (true, (s.1, s.2 ++ [x])))
  else (true, s)
def SeeRes (q base : Nat) (r : Bool × (BL × BL)) (w : World) (e : Ending) (w' : World) : Prop := e = .returned (.bool r.1) ∧ Qs w' q base r.2 ∧ UpdQ q base w w'
def TakeRes (q base : Nat) (r : Bool × (BL × BL)) (w : World) (e : Ending) (w' : World) : Prop := e = .returned (.bool r.1) ∧ Qs w' q base r.2 ∧ UpdQ q base w w' ∧ w.heap.size ≤ w'.heap.size ∧ ∀ k, k < w.heap.size → k ≠ q → w'.heap[k]? = w.heap[k]?
theorem take0_any (q base x : Nat) (vx : Value) (u : List UInt8) (s : BL × BL) (w : World) (hs : Qs w q base s) (hx : w.cell? ⟨x, 3, none⟩ = some vx) (hxb : Bs w vx u) :
    Calls Try.prog 16 #[.pointer (some ⟨q, 0, none⟩), isF x] w (TakeRes q base ((takeP u s.1).1, ((takeP u s.1).2, s.2)) w) := by
  obtain ⟨a, b⟩ := s
  obtain ⟨va, vb, ta, tb, R, ha, hb, hq, hne⟩ := id hs
  match a, ha, hs with
  | [], ha, hs =>
    refine (take_none q 0 base x va w (QRow.at R 0) ha).mono ?_
    rintro e w' ⟨rfl, rfl⟩
    exact ⟨rfl, hs, UpdQ.refl _ _ _, Nat.le_refl _, fun _ _ _ => rfl⟩
  | m :: r, ha, hs =>
    by_cases hm : m = u
    · subst hm
      refine (take_right q 0 base x va vx ta _ m r w R (QRow.at R 0) (QRow.at R 1) ha hx hxb).mono ?_
      rintro e w' ⟨rfl, v', t', hr, ho, rfl⟩
      have R' : RowIs ((w.setCell ⟨q, 0, none⟩ v').setCell ⟨q, 0 + 1, none⟩ (.int .i64 t')) q (qC v' t' vb tb) := by
        have := (R.put 0 v').put 1 (.int .i64 t')
        rw [qC_def] at this ⊢
        simpa using this
      have U : Upd q w ((w.setCell ⟨q, 0, none⟩ v').setCell ⟨q, 0 + 1, none⟩ (.int .i64 t')) := ((Upd.refl q w).put 0 v').put 1 (.int .i64 t')
      obtain ⟨g1, g2⟩ := Qs.side0 R ha hb hq hne (grownBy.refl _ _) hr (fun k hk => by rcases ho with h | h <;> rw [h] at hk; exact .inl hk; cases hk) U R'
      exact ⟨by simp [takeP], by simp only [takeP, if_true]; exact g1, g2, U.size, U.block⟩
    · refine (take_wrong q 0 base x va vx m u r w (QRow.at R 0) ha hx hxb hm).mono ?_
      rintro e w' ⟨rfl, rfl⟩
      exact ⟨by simp [takeP, hm], by simp only [takeP, if_neg hm]; exact hs, UpdQ.refl _ _ _, Nat.le_refl _, fun _ _ _ => rfl⟩
theorem take1_any (q base x : Nat) (vx : Value) (u : List UInt8) (s : BL × BL) (w : World) (hs : Qs w q base s) (hx : w.cell? ⟨x, 3, none⟩ = some vx) (hxb : Bs w vx u) :
    Calls Try.prog 16 #[.pointer (some ⟨q, 2, none⟩), isF x] w (TakeRes q base ((takeP u s.2).1, (s.1, (takeP u s.2).2)) w) := by
  obtain ⟨a, b⟩ := s
  obtain ⟨va, vb, ta, tb, R, ha, hb, hq, hne⟩ := id hs
  match b, hb, hs with
  | [], hb, hs =>
    refine (take_none q 2 base x vb w (QRow.at R 2) hb).mono ?_
    rintro e w' ⟨rfl, rfl⟩
    exact ⟨rfl, hs, UpdQ.refl _ _ _, Nat.le_refl _, fun _ _ _ => rfl⟩
  | m :: r, hb, hs =>
    by_cases hm : m = u
    · subst hm
      refine (take_right q 2 base x vb vx tb _ m r w R (QRow.at R 2) (QRow.at R 3) hb hx hxb).mono ?_
      rintro e w' ⟨rfl, v', t', hr, ho, rfl⟩
      have R' : RowIs ((w.setCell ⟨q, 2, none⟩ v').setCell ⟨q, 2 + 1, none⟩ (.int .i64 t')) q (qC va ta v' t') := by
        have := (R.put 2 v').put 3 (.int .i64 t')
        rw [qC_def] at this ⊢
        simpa using this
      have U : Upd q w ((w.setCell ⟨q, 2, none⟩ v').setCell ⟨q, 2 + 1, none⟩ (.int .i64 t')) := ((Upd.refl q w).put 2 v').put 3 (.int .i64 t')
      obtain ⟨g1, g2⟩ := Qs.side1 R ha hb hq hne (grownBy.refl _ _) hr (fun k hk => by rcases ho with h | h <;> rw [h] at hk; exact .inl hk; cases hk) U R'
      exact ⟨by simp [takeP], by simp only [takeP, if_true]; exact g1, g2, U.size, U.block⟩
    · refine (take_wrong q 2 base x vb vx m u r w (QRow.at R 2) hb hx hxb hm).mono ?_
      rintro e w' ⟨rfl, rfl⟩
      exact ⟨by simp [takeP, hm], by simp only [takeP, if_neg hm]; exact hs, UpdQ.refl _ _ _, Nat.le_refl _, fun _ _ _ => rfl⟩
def AddRes (q base : Nat) (s : BL × BL) (w : World) (e : Ending) (w' : World) : Prop := e = .returned (.tuple #[]) ∧ Qs w' q base s ∧ UpdQ q base w w'
theorem add0_any (q base : Nat) (vx : Value) (x : List UInt8) (s : BL × BL) (w : World) (hs : Qs w q base s) (hx : Bs w vx x) (hl : s.1.length ≤ 1000) :
    Calls Try.prog 18 #[.pointer (some ⟨q, 0, none⟩), vx] w (AddRes q base (s.1 ++ [x], s.2) w) := by
  obtain ⟨va, vb, ta, tb, R, ha, hb, hq, hne⟩ := id hs
  refine (add_any q 0 base va vx s.1 x _ w R (QRow.at R 0) ha (qC_no _ _ _ _) hx hl hq).mono ?_
  rintro e w' ⟨rfl, w1, v', g, h1, ho, rfl⟩
  have R1 : RowIs w1 q (qC va ta vb tb) := R.grown g (ha.ne_row R (qC_no _ _ _ _))
  have R' : RowIs (w1.setCell ⟨q, 0, none⟩ v') q (qC v' ta vb tb) := by
    have := R1.put 0 v'
    rw [qC_def] at this ⊢
    simpa using this
  obtain ⟨g1, g2⟩ := Qs.side0 R ha hb hq hne g h1 (fun k hk => by
    rcases ho with h | ⟨j, h, hj⟩
    · rw [h] at hk; exact .inl hk
    · rw [h] at hk; obtain rfl := Option.some.inj hk; exact .inr hj) ((Upd.refl q w1).put 0 v') R'
  exact ⟨rfl, g1, g2⟩
theorem add1_any (q base : Nat) (vx : Value) (x : List UInt8) (s : BL × BL) (w : World) (hs : Qs w q base s) (hx : Bs w vx x) (hl : s.2.length ≤ 1000) :
    Calls Try.prog 18 #[.pointer (some ⟨q, 2, none⟩), vx] w (AddRes q base (s.1, s.2 ++ [x]) w) := by
  obtain ⟨va, vb, ta, tb, R, ha, hb, hq, hne⟩ := id hs
  refine (add_any q 2 base vb vx s.2 x _ w R (QRow.at R 2) hb (qC_no _ _ _ _) hx hl hq).mono ?_
  rintro e w' ⟨rfl, w1, v', g, h1, ho, rfl⟩
  have R1 : RowIs w1 q (qC va ta vb tb) := R.grown g (hb.ne_row R (qC_no _ _ _ _))
  have R' : RowIs (w1.setCell ⟨q, 2, none⟩ v') q (qC va ta v' tb) := by
    have := R1.put 2 v'
    rw [qC_def] at this ⊢
    simpa using this
  obtain ⟨g1, g2⟩ := Qs.side1 R ha hb hq hne g h1 (fun k hk => by
    rcases ho with h | ⟨j, h, hj⟩
    · rw [h] at hk; exact .inl hk
    · rw [h] at hk; obtain rfl := Option.some.inj hk; exact .inr hj) ((Upd.refl q w1).put 2 v') R'
  exact ⟨rfl, g1, g2⟩
end Go.Proofs.Ytlfplikkifjnfaa
