/- Byte slices held against each other, cloned, and kept in an own list. -/
import Derived.Test.YtopmdbmnlflpgaaDoorFacts
import Derived.Test.YtopmdbmnlflpgaaDoorOwn
import Derived.Test.YtopmdbmnlflpgaaDoorLexS
import Derived.Test.YtopmdbmnlflpgaaDoorLexT
import Derived.Test.YtopmdbmnlflpgaaDoorAppBs
import Derived.Test.YtopmdbmnlflpgaaDoorPart
import Derived.Test.YtopmdbmnlflpgaaDoorJoin
import Derived.Lib.SliceRun
import Derived.Laws.BytesArg
import Derived.Laws.Strings
namespace Go.Proofs.YtopmdbmnlflpgaaDoor
open Go.RowKit
theorem strOf_u8 (l : List UInt8) : strOfNums (l.map n8) = ⟨l.toArray⟩ := by
  unfold strOfNums
  congr 2
  rw [List.map_map]
  conv => rhs; rw [← List.map_id l]
  apply List.map_congr_left
  intro u _
  simp only [Function.comp, n8_def, id]
  apply UInt8.toNat_inj.1
  rw [UInt8.toNat_ofNat']
  have := u.toNat_lt
  omega
theorem conv_str {w : World} {v : Value} {l : List UInt8} (h : Bs w v l) : (convert 27 9 v).run Tryd.prog w = .ok (.string ⟨l.toArray⟩) w := by
  obtain ⟨A, c, rfl, h1, h2, h3⟩ := h
  by_cases h0 : 0 < l.length
  · obtain ⟨g, o, rfl, hg, hc⟩ := h3 h0
    rw [run_convert_bytes_arg w 27 5 Tryd.underlying27 Tryd.underlying5 g o l.length c (l.map n8) (by simp) (fun i hi => by
      rw [hc i hi, at8_get l i hi]; simp [List.getD, hi]) 9 Tryd.underlying9, strOf_u8]
  · obtain rfl : l = [] := List.eq_nil_of_length_eq_zero (by omega)
    cases A with
    | none => exact run_convert_bytes_nil w 27 5 Tryd.underlying27 Tryd.underlying5 _ c 9 Tryd.underlying9
    | some a =>
      obtain ⟨g, o, sp⟩ := a
      rw [run_convert_bytes_string w _ _ _ _ _ c Tryd.underlying27 Tryd.underlying5 Tryd.underlying9, run_bytesToString w ⟨g, o, sp⟩ _ c [] (by simp [loadCells, loadCellsFrom])]
      rfl
theorem str_inj {l m : List UInt8} (h : (⟨l.toArray⟩ : ByteArray) = ⟨m.toArray⟩) : l = m := by
  have := congrArg (fun b : ByteArray => b.data.toList) h
  simpa using this
set_option maxRecDepth 100000 in
theorem equal_bs {w : World} {a b : Value} {l m : List UInt8} (ha : Bs w a l) (hb : Bs w b m) : Calls Tryd.prog 84 #[a, b] w fun e w' => e = .returned (.bool (decide (l = m))) ∧ w = w' := by
  have h1 := conv_str ha
  have h2 := conv_str hb
  by_cases h : l = m
  · subst h
    clear ha hb
    go_enter Tryd.func84, Tryd.ntmps84
    go_wp2_with fail
    go_ret
    exact ⟨by simp, rfl⟩
  · clear ha hb
    obtain ⟨S1, hS1⟩ : ∃ S : ByteArray, S = ⟨l.toArray⟩ := ⟨_, rfl⟩
    obtain ⟨S2, hS2⟩ : ∃ S : ByteArray, S = ⟨m.toArray⟩ := ⟨_, rfl⟩
    have hne : ¬ S1.toList = S2.toList := by rw [hS1, hS2, ByteArray.toList_mk, ByteArray.toList_mk]; exact h
    rw [← hS1] at h1; rw [← hS2] at h2
    have H := Lib.hid h
    clear h hS1 hS2
    go_enter Tryd.func84, Tryd.ntmps84
    go_wp2_with fail
    go_ret
    exact ⟨by simp [H.out]; exact hne, rfl⟩
set_option maxRecDepth 100000 in
theorem clone_bs {w : World} {v : Value} {l : List UInt8} (h : Bs w v l) : Calls Tryd.prog 83 #[v] w (BsRes w l) := by
  have hl := h.le
  obtain ⟨A, c, rfl, -, -, -⟩ := id h
  obtain ⟨N, hN⟩ : ∃ N, l.length = N := ⟨_, rfl⟩
  have HN := Lib.hid hN
  rw [hN] at h hl ⊢
  clear hN
  cases A with
  | none =>
    have h0 : l = [] := by
      obtain ⟨A', c', h1, h2, h3, h4⟩ := h
      injection h1 with e1 e2 e3
      subst e1
      rcases Nat.eq_zero_or_pos l.length with h0 | h0
      · exact List.eq_nil_of_length_eq_zero h0
      · obtain ⟨g, o, e, _⟩ := h4 h0; cases e
    have H0 := Lib.hid h0
    have hN0 : N = 0 := by rw [← HN.out, h0]; rfl
    subst hN0
    have hnil := fun (w : World) => Lib.run_eql_slice_nil (P := Tryd.prog) w 27 5 none 0 c 0 0 Tryd.underlying27
    clear h h0 hl
    go_enter Tryd.func83, Tryd.ntmps83
    go_wp2_with fail
    go_ret
    rw [H0.out]
    exact ⟨_, rfl, Bs.nil _, Below.refl _ _⟩
  | some a =>
    have hb := h.step ((Below.refl w.heap.size w).alloc (Nat.le_refl _) (.cells #[] 5))
    have ho := Own8.empty (T := 5) (g := w.heap.size) w (base := w.heap.size) rfl (Nat.le_refl _)
    clear h
    have hnil := fun (w : World) => Lib.run_eql_slice_nil (P := Tryd.prog) w 27 5 (some a) N c 0 0 Tryd.underlying27
    go_enter Tryd.func83, Tryd.ntmps83
    go_wp2_with (at_builtin; refine wpList_appendBs Tryd.underlying27 Tryd.info8 rfl (.tmp 5) (.tmp 6) rfl w.heap.size rfl ho rfl hb (List.nil_append _) HN.out (by omega) (by simp) ?_; intro A' c' w' own1 bel1)
    go_ret
    exact ⟨_, rfl, by have := own1.bs (by rw [HN.out]; exact hl); exact this, ((Below.refl w.heap.size w).alloc (Nat.le_refl _) _).trans bel1⟩
abbrev BL := List (List UInt8)
def isSl : Value → Bool | .slice _ _ _ => true | _ => false
/-- cells that read as these byte slices -/
def BsAll (w : World) : List Value → BL → Prop
  | [], [] => True
  | v :: vs, l :: ls => Bs w v l ∧ BsAll w vs ls
  | _, _ => False
theorem BsAll.len {w : World} : ∀ {vs : List Value} {ls : BL}, BsAll w vs ls → vs.length = ls.length
  | [], [], _ => rfl
  | _ :: _, _ :: _, h => by rw [List.length_cons, List.length_cons, BsAll.len h.2]
  | [], _ :: _, h => h.elim
  | _ :: _, [], h => h.elim
theorem BsAll.map {w w' : World} (hf : ∀ v l, Bs w v l → Bs w' v l) : ∀ {vs : List Value} {ls : BL}, BsAll w vs ls → BsAll w' vs ls
  | [], [], _ => trivial
  | _ :: _, _ :: _, h => ⟨hf _ _ h.1, h.2.map hf⟩
  | [], _ :: _, h => h.elim
  | _ :: _, [], h => h.elim
theorem BsAll.append {w : World} : ∀ {vs us : List Value} {ls ms : BL}, BsAll w vs ls → BsAll w us ms → BsAll w (vs ++ us) (ls ++ ms)
  | [], _, [], _, _, h => h
  | _ :: _, _, _ :: _, _, h, k => ⟨h.1, h.2.append k⟩
  | [], _, _ :: _, _, h, _ => h.elim
  | _ :: _, _, [], _, h, _ => h.elim
theorem BsAll.get {w : World} : ∀ {vs : List Value} {ls : BL}, BsAll w vs ls → ∀ i, i < ls.length → ∃ v, vs[i]? = some v ∧ Bs w v (nthL ls i)
  | [], [], _, i, hi => absurd hi (by simp)
  | v :: vs, l :: ls, h, 0, _ => ⟨v, rfl, by rw [nthL_def]; exact h.1⟩
  | v :: vs, l :: ls, h, i + 1, hi => by
    obtain ⟨u, h1, h2⟩ := h.2.get i (by simpa using hi)
    exact ⟨u, by simpa using h1, by rw [nthL_def] at h2 ⊢; exact h2⟩
  | [], _ :: _, h, _, _ => h.elim
  | _ :: _, [], h, _, _ => h.elim
theorem BsAll.one {w : World} : ∀ {vs : List Value} {ls : BL}, BsAll w vs ls → ∀ u ∈ vs, u.oneCell' = true ∧ isSl u = true
  | [], [], _, u, hu => by cases hu
  | v :: vs, l :: ls, h, u, hu => by
    rcases List.mem_cons.1 hu with rfl | hu
    · obtain ⟨A, c, rfl, _⟩ := h.1; exact ⟨rfl, rfl⟩
    · exact h.2.one u hu
  | [], _ :: _, h, _, _ => h.elim
  | _ :: _, [], h, _, _ => h.elim
theorem BsAll.drop {w : World} : ∀ {vs : List Value} {ls : BL} (k : Nat), BsAll w vs ls → BsAll w (vs.drop k) (ls.drop k)
  | [], [], _, _ => by simp [BsAll]
  | _ :: _, _ :: _, 0, h => h
  | _ :: _, _ :: _, k + 1, h => h.2.drop k
  | [], _ :: _, _, h => h.elim
  | _ :: _, [], _, h => h.elim
theorem BsAll.take {w : World} : ∀ {vs : List Value} {ls : BL} (k : Nat), BsAll w vs ls → BsAll w (vs.take k) (ls.take k)
  | [], [], _, _ => by simp [BsAll]
  | _ :: _, _ :: _, 0, _ => trivial
  | _ :: _, _ :: _, k + 1, h => ⟨h.1, h.2.take k⟩
  | [], _ :: _, _, h => h.elim
  | _ :: _, [], _, h => h.elim
/-- an own list of byte slices -/
def OwnL (w : World) (base : Nat) (v : Value) (ls : BL) : Prop := ∃ vs, OwnG 27 1 isSl w base v ls.length vs ∧ BsAll w vs ls
theorem OwnL.nil (w : World) (base : Nat) : OwnL w base (.slice none 0 0) [] := ⟨[], OwnG.nil _ _ _ _ _, trivial⟩
theorem OwnL.step {w w' : World} {base : Nat} {v : Value} {ls : BL} (h : OwnL w base v ls) (hb : Below w.heap.size w w') : OwnL w' base v ls := by
  obtain ⟨vs, h1, h2⟩ := h
  exact ⟨vs, h1.step hb, h2.map fun _ _ h => h.step hb⟩
theorem OwnL.slice {w : World} {base : Nat} {v : Value} {ls : BL} (h : OwnL w base v ls) : ∃ A c, v = .slice A ls.length c ∧ ls.length ≤ c := by obtain ⟨vs, h1, _⟩ := h; exact h1.slice
theorem OwnL.lt {w : World} {base : Nat} {v : Value} {ls : BL} (h : OwnL w base v ls) {k : Nat} (hk : v.ownBlock = some k) : base ≤ k ∧ k < w.heap.size := by obtain ⟨vs, h1, _⟩ := h; exact h1.lt hk
theorem OwnL.no8 {w : World} {base : Nat} {v : Value} {ls : BL} (h : OwnL w base v ls) {k : Nat} (hk : v.ownBlock = some k) : No8 w k := by obtain ⟨vs, h1, _⟩ := h; exact h1.no8 (fun _ => rfl) hk
theorem OwnL.ne_row {w : World} {base : Nat} {v : Value} {ls : BL} (h : OwnL w base v ls) {q : Nat} {cs : Array Value} (hr : RowIs w q cs) (hn : cs.all isSl = false) : v.ownBlock ≠ some q := by obtain ⟨vs, h1, _⟩ := h; exact h1.ne_row hr hn
/-- another own list turned -/
theorem OwnL.grown {w w' : World} {base : Nat} {v : Value} {ls : BL} {row : Option Nat} (h : OwnL w base v ls) (hg : w.grownBy w' row) (hn : ∀ k, row = some k → No8 w k) (hne : ∀ k, v.ownBlock = some k → row ≠ some k) : OwnL w' base v ls := by
  obtain ⟨vs, h1, h2⟩ := h
  exact ⟨vs, h1.keep fun k hk _ hl => hg.block k hl (fun e => hne k hk e.symm), h2.map fun _ _ h => h.grown hg hn⟩
/-- a block that holds no bytes and is none of the list's turned -/
theorem OwnL.upd {w w' : World} {base g : Nat} {v : Value} {ls : BL} (h : OwnL w base v ls) (hu : Upd g w w') (hn : No8 w g) (hne : v.ownBlock ≠ some g) : OwnL w' base v ls := by
  obtain ⟨vs, h1, h2⟩ := h
  exact ⟨vs, h1.keep fun k hk _ hl => hu.block k hl (fun e => hne (by rw [hk, e])), h2.map fun _ _ h => h.upd hu hn⟩
theorem OwnL.mono {w : World} {base b : Nat} {v : Value} {ls : BL} (h : OwnL w base v ls) (hb : b ≤ base) : OwnL w b v ls := by
  obtain ⟨vs, h1, h2⟩ := h; exact ⟨vs, h1.mono hb, h2⟩
theorem OwnL.bsl {w : World} {base : Nat} {v : Value} {ls : BL} (h : OwnL w base v ls) (hl : ls.length ≤ 140737488351232) : BsL w v ls := by
  obtain ⟨vs, h1, h2⟩ := h
  obtain ⟨A, c, e, hc⟩ := h1.slice
  refine ⟨A, c, e, hc, hl, fun h0 => ?_⟩
  obtain ⟨g, o, c', e', _, hg⟩ := h1.addr h0
  rw [e'] at e
  injection e with e1 e2 e3
  refine ⟨g, o, e1.symm, hg, fun i hi => ?_⟩
  obtain ⟨u, h3, h4⟩ := h2.get i hi
  exact ⟨u, h1.range e' i h3, h4⟩
theorem slInfo : (Tryd.prog.info? 27).map (fun i => (i.zero, i.size, i.bytes)) = some (some (.slice none 0 0), 1, 24) := by kernel_rfl
/-- byte slices appended -/
theorem wp_appendL {w : World} {o : Oper} {a : Act} {K : Act → World → Prop} {Q : Exit → Act → World → Prop} (sl x : Operand) (ho : o.op = .call { callee := .builtin .append, args := #[sl, x], argTypes := #[42, 42] })
    {base N : Nat} {v vx : Value} {ls ms : BL} (hsv : a.eval sl = v) (hown : OwnL w base v ls) (hx : a.eval x = vx) (hms : BsL w vx ms) (hN : ls.length + ms.length = N) (hb : N ≤ 1000000) (hbase : base ≤ w.heap.size)
    (hK : ∀ A' c' w', OwnL w' base (.slice A' N c') (ls ++ ms) → w.grownBy w' v.ownBlock → ((Value.slice A' N c').ownBlock = v.ownBlock ∨ (Value.slice A' N c').ownBlock = some w.heap.size) → K (a.put o.dst (.slice A' N c')) w') : o.wp Tryd.prog a w K Q := by
  obtain ⟨vs, h1, h2⟩ := hown
  obtain ⟨A, c, rfl, hmc, hml, hrd⟩ := hms
  obtain ⟨i, hi1, hz, hs1, hb1⟩ := info_parts slInfo
  have hex : ∃ us, BsAll w us ms ∧ SrcAt w A us := by
    rcases Nat.eq_zero_or_pos ms.length with h0 | h0
    · obtain rfl := List.eq_nil_of_length_eq_zero h0
      exact ⟨[], trivial, fun h => by simp at h⟩
    · obtain ⟨g, oo, rfl, hg, hr⟩ := hrd h0
      have : ∀ (k : Nat) (ps : BL), (∀ i, i < ps.length → ∃ v, w.cell? ⟨g, oo + (k + i), none⟩ = some v ∧ Bs w v (nthL ps i)) → ∃ us, BsAll w us ps ∧ ∀ j u, us[j]? = some u → w.cell? ⟨g, oo + (k + j), none⟩ = some u := by
        intro k ps
        induction ps generalizing k with
        | nil => intro _; exact ⟨[], trivial, fun j u hu => by simp at hu⟩
        | cons p ps ih =>
          intro h
          obtain ⟨u0, e1, e2⟩ := h 0 (by simp)
          obtain ⟨us, i1, i2⟩ := ih (k + 1) (fun i hi => by
            obtain ⟨u, e3, e4⟩ := h (i + 1) (by simp; omega)
            exact ⟨u, by rw [show k + 1 + i = k + (i + 1) by omega]; exact e3, by rw [nthL_def] at e4 ⊢; exact e4⟩)
          refine ⟨u0 :: us, ⟨by rw [nthL_def] at e2; exact e2, i1⟩, fun j u hu => ?_⟩
          cases j with
          | zero => obtain rfl : u0 = u := by simpa using hu
                    exact e1
          | succ j => have := i2 j u (by simpa using hu)
                      rw [show k + (j + 1) = k + 1 + j by omega]; exact this
      obtain ⟨us, i1, i2⟩ := this 0 ms (fun i hi => by rw [Nat.zero_add]; exact hr i hi)
      exact ⟨us, i1, fun _ => ⟨g, oo, rfl, fun j u hu => by have := i2 j u hu; rw [Nat.zero_add] at this; exact this⟩⟩
  obtain ⟨us, hus, hsrc⟩ := hex
  refine wp_appendG (p := isSl) (s := 1) Tryd.underlying42 hi1 hz hs1 hb1 (by simp [Value.cells]) (by omega) (by simp [Value.cells, isSl]) sl x ho hsv h1 hx (by rw [hus.len]; omega) hsrc (fun u hu => (hus.one u hu).1) (fun u hu => (hus.one u hu).2) hN (by simp only [maxLen]; omega) (by omega) hbase (fun A' c' w' q1 q2 q3 => hK A' c' w' ⟨_, by rw [List.length_append, hN]; exact q1, ?_⟩ q2 q3)
  have hno : ∀ k, v.ownBlock = some k → No8 w k := fun k hk => h1.no8 (fun _ => rfl) hk
  exact (h2.map fun _ _ h => h.grown q2 hno).append (hus.map fun _ _ h => h.grown q2 hno)
theorem wpList_appendL {w : World} {o : Oper} {a : Act} {ops : Array Oper} {rest : List Oper} {Q : Exit → Act → World → Prop} (hgd : o.guard = none) (sl x : Operand) (ho : o.op = .call { callee := .builtin .append, args := #[sl, x], argTypes := #[42, 42] })
    {base N : Nat} {v vx : Value} {ls ms : BL} (hsv : a.eval sl = v) (hown : OwnL w base v ls) (hx : a.eval x = vx) (hms : BsL w vx ms) (hN : ls.length + ms.length = N) (hb : N ≤ 1000000) (hbase : base ≤ w.heap.size)
    (hK : ∀ A' c' w', OwnL w' base (.slice A' N c') (ls ++ ms) → w.grownBy w' v.ownBlock → ((Value.slice A' N c').ownBlock = v.ownBlock ∨ (Value.slice A' N c').ownBlock = some w.heap.size) → wpList Tryd.prog ops Q rest (a.put o.dst (.slice A' N c')) w') : wpList Tryd.prog ops Q (o :: rest) a w :=
  wpList_plain hgd fun _ hK' => wp_appendL sl x ho hsv hown hx hms hN hb hbase fun A' c' w' h2 h3 h4 => hK' _ _ (hK A' c' w' h2 h3 h4)
theorem grownBy.of {w w0 w1 : World} {row : Option Nat} (hb : Below w.heap.size w w0) (hg : w0.grownBy w1 row) : w.grownBy w1 row :=
  ⟨hg.os.trans hb.os, hg.tape.trans hb.tape, hg.output.trans hb.output, Nat.le_trans hb.size hg.size, fun k hk hne => (hg.block k (Nat.lt_of_lt_of_le hk hb.size) hne).trans (hb.block k hk)⟩
end Go.Proofs.YtopmdbmnlflpgaaDoor
