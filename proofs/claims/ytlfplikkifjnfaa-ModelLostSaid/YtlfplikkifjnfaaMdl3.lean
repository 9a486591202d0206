/- Layer 26: a queue's list of byte slices; one more behind; the first one off. -/
import Derived.Test.YtlfplikkifjnfaaMdl2
namespace Go.Proofs.Ytlfplikkifjnfaa
open Go.RowKit
abbrev BL := List (List UInt8)
def isSl : Value → Bool | .slice _ _ _ => true | _ => false
/-- cells that read as these byte slices -/
def BsAll (w : World) : List Value → BL → Prop
  | [], [] => True
  | v :: vs, l :: ls => Bs w v l ∧ BsAll w vs ls
  | _, _ => False
theorem BsAll.len {w : World} : ∀ {vs : List Value} {ls : BL}, BsAll w vs ls → vs.length = ls.length
  | [], [], _ => rfl
  | _ :: _, _ :: _, h => by rw [List.length_cons, List.length_cons, BsAll.len h.2]
  | [], _ :: _, h => h.elim
  | _ :: _, [], h => h.elim
theorem BsAll.map {w w' : World} (hf : ∀ v l, Bs w v l → Bs w' v l) : ∀ {vs : List Value} {ls : BL}, BsAll w vs ls → BsAll w' vs ls
  | [], [], _ => trivial
  | _ :: _, _ :: _, h => ⟨hf _ _ h.1, h.2.map hf⟩
  | [], _ :: _, h => h.elim
  | _ :: _, [], h => h.elim
theorem BsAll.append {w : World} : ∀ {vs us : List Value} {ls ms : BL}, BsAll w vs ls → BsAll w us ms → BsAll w (vs ++ us) (ls ++ ms)
  | [], _, [], _, _, h => h
  | _ :: _, _, _ :: _, _, h, k => ⟨h.1, h.2.append k⟩
  | [], _, _ :: _, _, h, _ => h.elim
  | _ :: _, _, [], _, h, _ => h.elim
theorem BsAll.get {w : World} : ∀ {vs : List Value} {ls : BL}, BsAll w vs ls → ∀ i, i < ls.length → ∃ v, vs[i]? = some v ∧ Bs w v (nthL ls i)
  | [], [], _, i, hi => absurd hi (by simp)
  | v :: vs, l :: ls, h, 0, _ => ⟨v, rfl, by rw [nthL_def]; exact h.1⟩
  | v :: vs, l :: ls, h, i + 1, hi => by
    obtain ⟨u, h1, h2⟩ := h.2.get i (by simpa using hi)
    exact ⟨u, by simpa using h1, by rw [nthL_def] at h2 ⊢; exact h2⟩
  | [], _ :: _, h, _, _ => h.elim
  | _ :: _, [], h, _, _ => h.elim
theorem BsAll.one {w : World} : ∀ {vs : List Value} {ls : BL}, BsAll w vs ls → ∀ u ∈ vs, u.oneCell' = true ∧ isSl u = true
  | [], [], _, u, hu => by cases hu
  | v :: vs, l :: ls, h, u, hu => by
    rcases List.mem_cons.1 hu with rfl | hu
    · obtain ⟨A, c, rfl, _⟩ := h.1; exact ⟨rfl, rfl⟩
    · exact h.2.one u hu
  | [], _ :: _, h, _, _ => h.elim
  | _ :: _, [], h, _, _ => h.elim
theorem BsAll.drop {w : World} : ∀ {vs : List Value} {ls : BL} (k : Nat), BsAll w vs ls → BsAll w (vs.drop k) (ls.drop k)
  | [], [], _, _ => by simp [BsAll]
  | _ :: _, _ :: _, 0, h => h
  | _ :: _, _ :: _, k + 1, h => h.2.drop k
  | [], _ :: _, _, h => h.elim
  | _ :: _, [], _, h => h.elim
theorem BsAll.take {w : World} : ∀ {vs : List Value} {ls : BL} (k : Nat), BsAll w vs ls → BsAll w (vs.take k) (ls.take k)
  | [], [], _, _ => by simp [BsAll]
  | _ :: _, _ :: _, 0, _ => trivial
  | _ :: _, _ :: _, k + 1, h => ⟨h.1, h.2.take k⟩
  | [], _ :: _, _, h => h.elim
  | _ :: _, [], _, h => h.elim
/-- an own list of byte slices -/
def OwnL (w : World) (base : Nat) (v : Value) (ls : BL) : Prop := ∃ vs, OwnG 34 1 isSl w base v ls.length vs ∧ BsAll w vs ls
theorem OwnL.nil (w : World) (base : Nat) : OwnL w base (.slice none 0 0) [] := ⟨[], OwnG.nil _ _ _ _ _, trivial⟩
theorem OwnL.step {w w' : World} {base : Nat} {v : Value} {ls : BL} (h : OwnL w base v ls) (hb : Below w.heap.size w w') : OwnL w' base v ls := by
  obtain ⟨vs, h1, h2⟩ := h
  exact ⟨vs, h1.step hb, h2.map fun _ _ h => h.step hb⟩
theorem OwnL.slice {w : World} {base : Nat} {v : Value} {ls : BL} (h : OwnL w base v ls) : ∃ A c, v = .slice A ls.length c ∧ ls.length ≤ c := by obtain ⟨vs, h1, _⟩ := h; exact h1.slice
theorem OwnL.lt {w : World} {base : Nat} {v : Value} {ls : BL} (h : OwnL w base v ls) {k : Nat} (hk : v.ownBlock = some k) : base ≤ k ∧ k < w.heap.size := by obtain ⟨vs, h1, _⟩ := h; exact h1.lt hk
theorem OwnL.no8 {w : World} {base : Nat} {v : Value} {ls : BL} (h : OwnL w base v ls) {k : Nat} (hk : v.ownBlock = some k) : No8 w k := by obtain ⟨vs, h1, _⟩ := h; exact h1.no8 (fun _ => rfl) hk
theorem OwnL.ne_row {w : World} {base : Nat} {v : Value} {ls : BL} (h : OwnL w base v ls) {q : Nat} {cs : Array Value} (hr : RowIs w q cs) (hn : cs.all isSl = false) : v.ownBlock ≠ some q := by obtain ⟨vs, h1, _⟩ := h; exact h1.ne_row hr hn
/-- another own list turned -/
theorem OwnL.grown {w w' : World} {base : Nat} {v : Value} {ls : BL} {row : Option Nat} (h : OwnL w base v ls) (hg : w.grownBy w' row) (hn : ∀ k, row = some k → No8 w k) (hne : ∀ k, v.ownBlock = some k → row ≠ some k) : OwnL w' base v ls := by
  obtain ⟨vs, h1, h2⟩ := h
  exact ⟨vs, h1.keep fun k hk _ hl => hg.block k hl (fun e => hne k hk e.symm), h2.map fun _ _ h => h.grown hg hn⟩
/-- a block that holds no bytes and is none of the list's turned -/
theorem OwnL.upd {w w' : World} {base g : Nat} {v : Value} {ls : BL} (h : OwnL w base v ls) (hu : Upd g w w') (hn : No8 w g) (hne : v.ownBlock ≠ some g) : OwnL w' base v ls := by
  obtain ⟨vs, h1, h2⟩ := h
  exact ⟨vs, h1.keep fun k hk _ hl => hu.block k hl (fun e => hne (by rw [hk, e])), h2.map fun _ _ h => h.upd hu hn⟩
theorem OwnL.mono {w : World} {base b : Nat} {v : Value} {ls : BL} (h : OwnL w base v ls) (hb : b ≤ base) : OwnL w b v ls := by
  obtain ⟨vs, h1, h2⟩ := h; exact ⟨vs, h1.mono hb, h2⟩
theorem OwnL.bsl {w : World} {base : Nat} {v : Value} {ls : BL} (h : OwnL w base v ls) (hl : ls.length ≤ 140737488351232) : BsL w v ls := by
  obtain ⟨vs, h1, h2⟩ := h
  obtain ⟨A, c, e, hc⟩ := h1.slice
  refine ⟨A, c, e, hc, hl, fun h0 => ?_⟩
  obtain ⟨g, o, c', e', _, hg⟩ := h1.addr h0
  rw [e'] at e
  injection e with e1 e2 e3
  refine ⟨g, o, e1.symm, hg, fun i hi => ?_⟩
  obtain ⟨u, h3, h4⟩ := h2.get i hi
  exact ⟨u, h1.range e' i h3, h4⟩
theorem slInfo : (Try.prog.info? 34).map (fun i => (i.zero, i.size, i.bytes)) = some (some (.slice none 0 0), 1, 24) := by kernel_rfl
/-- byte slices appended -/
theorem wp_appendL {w : World} {o : Oper} {a : Act} {K : Act → World → Prop} {Q : Exit → Act → World → Prop} (sl x : Operand) (ho : o.op = .call { callee := .builtin .append, args := #[sl, x], argTypes := #[26, 26] })
    {base N : Nat} {v vx : Value} {ls ms : BL} (hsv : a.eval sl = v) (hown : OwnL w base v ls) (hx : a.eval x = vx) (hms : BsL w vx ms) (hN : ls.length + ms.length = N) (hb : N ≤ 1000000) (hbase : base ≤ w.heap.size)
    (hK : ∀ A' c' w', OwnL w' base (.slice A' N c') (ls ++ ms) → w.grownBy w' v.ownBlock → ((Value.slice A' N c').ownBlock = v.ownBlock ∨ (Value.slice A' N c').ownBlock = some w.heap.size) → K (a.put o.dst (.slice A' N c')) w') : o.wp Try.prog a w K Q := by
  obtain ⟨vs, h1, h2⟩ := hown
  obtain ⟨A, c, rfl, hmc, hml, hrd⟩ := hms
  obtain ⟨i, hi1, hz, hs1, hb1⟩ := info_parts slInfo
  have hex : ∃ us, BsAll w us ms ∧ SrcAt w A us := by
    rcases Nat.eq_zero_or_pos ms.length with h0 | h0
    · obtain rfl := List.eq_nil_of_length_eq_zero h0
      exact ⟨[], trivial, fun h => by simp at h⟩
    · obtain ⟨g, oo, rfl, hg, hr⟩ := hrd h0
      have : ∀ (k : Nat) (ps : BL), (∀ i, i < ps.length → ∃ v, w.cell? ⟨g, oo + (k + i), none⟩ = some v ∧ Bs w v (nthL ps i)) → ∃ us, BsAll w us ps ∧ ∀ j u, us[j]? = some u → w.cell? ⟨g, oo + (k + j), none⟩ = some u := by
        intro k ps
        induction ps generalizing k with
        | nil => intro _; exact ⟨[], trivial, fun j u hu => by simp at hu⟩
        | cons p ps ih =>
          intro h
          obtain ⟨u0, e1, e2⟩ := h 0 (by simp)
          obtain ⟨us, i1, i2⟩ := ih (k + 1) (fun i hi => by
            obtain ⟨u, e3, e4⟩ := h (i + 1) (by simp; omega)
            exact ⟨u, by rw [show k + 1 + i = k + (i + 1) by omega]; exact e3, by rw [nthL_def] at e4 ⊢; exact e4⟩)
          refine ⟨u0 :: us, ⟨by rw [nthL_def] at e2; exact e2, i1⟩, fun j u hu => ?_⟩
          cases j with
          | zero => obtain rfl : u0 = u := by simpa using hu
                    exact e1
          | succ j => have := i2 j u (by simpa using hu)
                      rw [show k + (j + 1) = k + 1 + j by omega]; exact this
      obtain ⟨us, i1, i2⟩ := this 0 ms (fun i hi => by rw [Nat.zero_add]; exact hr i hi)
      exact ⟨us, i1, fun _ => ⟨g, oo, rfl, fun j u hu => by have := i2 j u hu; rw [Nat.zero_add] at this; exact this⟩⟩
  obtain ⟨us, hus, hsrc⟩ := hex
  refine wp_appendG (p := isSl) (s := 1) Try.underlying26 hi1 hz hs1 hb1 (by simp [Value.cells]) (by omega) (by simp [Value.cells, isSl]) sl x ho hsv h1 hx (by rw [hus.len]; omega) hsrc (fun u hu => (hus.one u hu).1) (fun u hu => (hus.one u hu).2) hN (by simp only [maxLen]; omega) (by omega) hbase (fun A' c' w' q1 q2 q3 => hK A' c' w' ⟨_, by rw [List.length_append, hN]; exact q1, ?_⟩ q2 q3)
  have hno : ∀ k, v.ownBlock = some k → No8 w k := fun k hk => h1.no8 (fun _ => rfl) hk
  exact (h2.map fun _ _ h => h.grown q2 hno).append (hus.map fun _ _ h => h.grown q2 hno)
theorem wpList_appendL {w : World} {o : Oper} {a : Act} {ops : Array Oper} {rest : List Oper} {Q : Exit → Act → World → Prop} (hgd : o.guard = none) (sl x : Operand) (ho : o.op = .call { callee := .builtin .append, args := #[sl, x], argTypes := #[26, 26] })
    {base N : Nat} {v vx : Value} {ls ms : BL} (hsv : a.eval sl = v) (hown : OwnL w base v ls) (hx : a.eval x = vx) (hms : BsL w vx ms) (hN : ls.length + ms.length = N) (hb : N ≤ 1000000) (hbase : base ≤ w.heap.size)
    (hK : ∀ A' c' w', OwnL w' base (.slice A' N c') (ls ++ ms) → w.grownBy w' v.ownBlock → ((Value.slice A' N c').ownBlock = v.ownBlock ∨ (Value.slice A' N c').ownBlock = some w.heap.size) → wpList Try.prog ops Q rest (a.put o.dst (.slice A' N c')) w') : wpList Try.prog ops Q (o :: rest) a w :=
  wpList_plain hgd fun _ hK' => wp_appendL sl x ho hsv hown hx hms hN hb hbase fun A' c' w' h2 h3 h4 => hK' _ _ (hK A' c' w' h2 h3 h4)
theorem grownBy.of {w w0 w1 : World} {row : Option Nat} (hb : Below w.heap.size w w0) (hg : w0.grownBy w1 row) : w.grownBy w1 row :=
  ⟨hg.os.trans hb.os, hg.tape.trans hb.tape, hg.output.trans hb.output, Nat.le_trans hb.size hg.size, fun k hk hne => (hg.block k (Nat.lt_of_lt_of_le hk hb.size) hne).trans (hb.block k hk)⟩
def AddQ (q o base : Nat) (v : Value) (ls : BL) (w : World) (e : Ending) (w' : World) : Prop :=
  e = .returned (.tuple #[]) ∧ ∃ w1 v', w.grownBy w1 v.ownBlock ∧ OwnL w1 base v' ls ∧ (v'.ownBlock = v.ownBlock ∨ ∃ k, v'.ownBlock = some k ∧ w.heap.size ≤ k) ∧ w' = w1.setCell ⟨q, o, none⟩ v'
set_option maxRecDepth 100000 in
theorem add_any (q o base : Nat) (v vx : Value) (ls : BL) (x : List UInt8) (cs : Array Value) (w : World) (hq : RowIs w q cs) (hc : w.cell? ⟨q, o, none⟩ = some v) (hown : OwnL w base v ls) (hn : cs.all isSl = false) (hx : Bs w vx x) (hl : ls.length ≤ 1000) (hbase : base ≤ w.heap.size) :
    Calls Try.prog 18 #[.pointer (some ⟨q, o, none⟩), vx] w (AddQ q o base v (ls ++ [x]) w) := by
  have hne := hown.ne_row hq hn
  obtain ⟨A, c, rfl, -⟩ := hown.slice
  have hB : Below w.heap.size w (w.alloc (.cells #[vx] 34)) := (by repeat (first | with_reducible exact Below.refl _ _ | with_reducible assumption | refine Below.drew ?_ | refine below_drewN ?_ | refine Below.alloc ?_ (by first | omega | (simp; done) | (simp; omega)) _ | refine below_setRow ?_ (by omega) _ | refine Below.setCell ?_ (by first | omega | (simp; done) | (simp; omega)) _))
  have hms := BsL.lit1 (w := w) 34 rfl hx
  have hq1 := hq.step hB
  have f1 := (hB.cell (p := ⟨q, o, none⟩) hq.lt).trans hc
  have hown1 := hown.step hB
  obtain ⟨n, hnn⟩ : ∃ n, n = ls.length := ⟨_, rfl⟩
  have HN := Lib.hid hnn
  have hbase1 : base ≤ (w.alloc (.cells #[vx] 34)).heap.size := by simp; omega
  rw [← hnn] at hc f1 hown1 hne hl ⊢
  obtain ⟨Ax, cx, rfl, -, -, -⟩ := id hx
  clear hnn hown hx hq hn
  go_enter Try.func18, Try.ntmps18
  go_wp2_with (at_builtin; refine wpList_appendL rfl (.tmp 8) (.tmp 10) rfl (N := n + 1) rfl hown1 rfl hms (by rw [HN.out]; rfl) (by omega) hbase1 ?_; intro A' c' w' own2 gr2 ob2; have hq2 := hq1.grown gr2 hne; have fz2 := RowIs.fz hq2 o; have c2 := (World.cell?_of_block (a := ⟨q, o, none⟩) (gr2.block q hq1.lt (fun e => hne e.symm))).trans f1)
  go_end0
  refine ⟨rfl, w', .slice A' (n + 1) c', grownBy.of hB gr2, own2, ?_, rfl⟩
  rcases ob2 with h | h
  · exact .inl h
  · exact .inr ⟨_, h, by simp⟩
theorem bytes_ne {w : World} {v : Value} {l : List UInt8} (h : Bs w v l) : ∃ A c, v = .slice A l.length c := by obtain ⟨A, c, e, _⟩ := h; exact ⟨A, c, e⟩
def TakeNo (w : World) (e : Ending) (w' : World) : Prop := e = .returned (.bool false) ∧ w = w'
set_option maxRecDepth 100000 in
theorem take_none (q o base x : Nat) (v : Value) (w : World) (hc : w.cell? ⟨q, o, none⟩ = some v) (hown : OwnL w base v []) :
    Calls Try.prog 16 #[.pointer (some ⟨q, o, none⟩), isF x] w (TakeNo w) := by
  obtain ⟨A, c, rfl, -⟩ := hown.slice
  clear hown
  go_enter Try.func16, Try.ntmps16
  go_wp2_with fail
  go_ret
  exact ⟨rfl, rfl⟩
set_option maxRecDepth 100000 in
theorem take_wrong (q o base x : Nat) (v vx : Value) (m u : List UInt8) (r : BL) (w : World) (hc : w.cell? ⟨q, o, none⟩ = some v) (hown : OwnL w base v (m :: r)) (hx : w.cell? ⟨x, 3, none⟩ = some vx) (hxb : Bs w vx u) (hne : m ≠ u) :
    Calls Try.prog 16 #[.pointer (some ⟨q, o, none⟩), isF x] w (TakeNo w) := by
  obtain ⟨A, c, rfl, -⟩ := hown.slice
  obtain ⟨vs, h1, h2⟩ := hown
  obtain ⟨g, o', c', e, -, -⟩ := h1.addr (by simp)
  obtain ⟨u0, hu0, hb0⟩ := h2.get 0 (by simp)
  rw [show nthL (m :: r) 0 = m by rw [nthL_def]; rfl] at hb0
  injection e with e1 e2 e3
  subst e1; subst e3
  have f0 := h1.range rfl 0 hu0
  rw [Nat.add_zero] at f0
  obtain ⟨A0, c0, e0⟩ := bytes_ne hb0
  subst e0
  obtain ⟨n, hn⟩ : ∃ n, n = (m :: r).length := ⟨_, rfl⟩
  have hn0 : ((n : Int) == 0) = false := by rw [hn]; simp; omega
  have hn1 : (0 : Int) < n := by rw [hn]; simp
  rw [← hn] at hc
  have CC := is1_any hb0 hx hxb
  have hd : decide (m = u) = false := by simpa using hne
  rw [hd] at CC
  have CC := Lib.hid CC
  clear hn h1 h2 hb0 hxb hne hd hx hu0
  go_enter Try.func16, Try.ntmps16
  go_wp2_with fail
  refine CC.out.mono ?_
  rintro e w' ⟨rfl, rfl⟩
  go_wp2_with fail
  go_ret
  exact ⟨rfl, rfl⟩
def TakeYes (q o base : Nat) (v : Value) (r : BL) (w : World) (e : Ending) (w' : World) : Prop := e = .returned (.bool true) ∧ ∃ v' t', OwnL w base v' r ∧ (v'.ownBlock = v.ownBlock ∨ v'.ownBlock = none) ∧ w' = (w.setCell ⟨q, o, none⟩ v').setCell ⟨q, o + 1, none⟩ (.int .i64 t')
set_option maxRecDepth 100000 in
theorem take_right (q o base x : Nat) (v vx : Value) (t : Int) (cs : Array Value) (m : List UInt8) (r : BL) (w : World) (hq : RowIs w q cs) (hc : w.cell? ⟨q, o, none⟩ = some v) (ht : w.cell? ⟨q, o + 1, none⟩ = some (.int .i64 t)) (hown : OwnL w base v (m :: r)) (hx : w.cell? ⟨x, 3, none⟩ = some vx) (hxb : Bs w vx m) :
    Calls Try.prog 16 #[.pointer (some ⟨q, o, none⟩), isF x] w (TakeYes q o base v r w) := by
  obtain ⟨A, c, rfl, -⟩ := hown.slice
  obtain ⟨vs, h1, h2⟩ := hown
  obtain ⟨g, o', c', e, -, -⟩ := h1.addr (by simp)
  obtain ⟨u0, hu0, hb0⟩ := h2.get 0 (by simp)
  rw [show nthL (m :: r) 0 = m by rw [nthL_def]; rfl] at hb0
  injection e with e1 e2 e3
  subst e1; subst e3
  have f0 := h1.range rfl 0 hu0
  rw [Nat.add_zero] at f0
  obtain ⟨A0, c0, e0⟩ := bytes_ne hb0
  subst e0
  obtain ⟨hnc, hd1⟩ := h1.drop1 rfl (by simp)
  have hdB : BsAll w (vs.drop 1) r := h2.drop 1
  have hrest : OwnL w base (.slice (some ⟨g, o' + 1, none⟩) ((m :: r).length - 1) (c - 1)) r := ⟨vs.drop 1, hd1, hdB⟩
  obtain ⟨n, hn⟩ : ∃ n, n = (m :: r).length := ⟨_, rfl⟩
  have hn0 : ((n : Int) == 0) = false := by rw [hn]; simp; omega
  have hn1 : (0 : Int) < n := by rw [hn]; simp
  have hn2 : (1 : Int) ≤ n := by omega
  rw [← hn] at hc hrest hnc
  have CC := is1_any hb0 hx hxb
  rw [show decide (m = m) = true by simp] at CC
  have CC := Lib.hid CC
  have REST := Lib.hid hrest
  have fz := RowIs.fz hq o
  have fz1 := RowIs.fz hq (o + 1)
  have hvoid : r = [] → OwnL w base (.slice (some ⟨g, o', none⟩) 0 0) r := fun e => by rw [e]; exact ⟨[], h1.void rfl, trivial⟩
  have hr0 : n = 1 → r = [] := fun e => List.eq_nil_of_length_eq_zero (by rw [e, List.length_cons] at hn; omega)
  clear hn h1 h2 hb0 hxb hx hu0 hd1 hdB hrest
  by_cases hc1 : c = 1
  · subst hc1
    have hn3 : n = 1 := by omega
    have VOID := Lib.hid (hvoid (hr0 hn3))
    subst hn3
    clear hvoid hr0
    go_enter Try.func16, Try.ntmps16
    go_wp2_with fail
    refine CC.out.mono ?_
    rintro e w' ⟨rfl, rfl⟩
    go_wp2_with fail
    go_ret
    exact ⟨rfl, _, _, VOID.out, .inl rfl, rfl⟩
  · have hc1' : ¬ (1 : Int) = c := by omega
    clear hvoid hr0
    go_enter Try.func16, Try.ntmps16
    go_wp2_with fail
    refine CC.out.mono ?_
    rintro e w' ⟨rfl, rfl⟩
    go_wp2_with fail
    go_ret
    exact ⟨rfl, _, _, REST.out, .inl rfl, rfl⟩
end Go.Proofs.Ytlfplikkifjnfaa
