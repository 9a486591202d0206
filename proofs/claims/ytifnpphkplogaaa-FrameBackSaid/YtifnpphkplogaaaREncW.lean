/- Layer 9: own lists of items that grow. | Layer 9: items told short, told as the document has them; the document's Encode. | Layer 9: the document's Encode. -/
import Derived.Test.YtifnpphkplogaaaEncW
namespace Go.Proofs.Ytifnpphkplogaaa
section
open Go.RowKit
def no8V : Value → Bool
  | .int .u8 _ => false
  | _ => true
theorem KsL.grown {w w' : World} {v : Value} {l : BLs} {row : Option Nat} (h : KsL w v l) (hl : ∀ k ∈ l, k.length = 32) (hg : w.grownBy w' row) (hn : ∀ k, row = some k → No8 w k) : KsL w' v l := by
  cases row with
  | none => exact h.step ⟨hg.os, hg.tape, hg.output, hg.size, fun k hk => hg.block k hk (by simp)⟩
  | some g => exact h.upd (g := g) hl ⟨hg.os, hg.tape, hg.output, hg.size, fun k hk hne => hg.block k hk (by simpa using hne)⟩ (hn g rfl)
/-- cells that are these items -/
def ItAll (w : World) : List Value → List ItP → Prop
  | [], [] => True
  | k :: n :: vb :: vl :: r, x :: xs => k = .int .i64 x.kind ∧ n = .int .u64 (n64 x.n) ∧ Bs w vb x.b ∧ KsL w vl x.l ∧ itKeys x ∧ ItAll w r xs
  | _, _ => False
theorem ItAll.len {w : World} : ∀ {cs : List Value} {xs : List ItP}, ItAll w cs xs → cs.length = xs.length * 4
  | [], [], _ => rfl
  | _ :: _ :: _ :: _ :: r, _ :: xs, h => by
    have := ItAll.len (cs := r) (xs := xs) h.2.2.2.2.2
    simp only [List.length_cons, this]; omega
  | [], _ :: _, h => h.elim
  | [_], _, h => by cases ‹List ItP› <;> exact h.elim
  | [_, _], _, h => by cases ‹List ItP› <;> exact h.elim
  | [_, _, _], _, h => by cases ‹List ItP› <;> exact h.elim
  | _ :: _ :: _ :: _ :: _, [], h => h.elim
theorem ItAll.map {w w' : World} (hf : ∀ v l, Bs w v l → Bs w' v l) (hk : ∀ v l, (∀ k ∈ l, k.length = 32) → KsL w v l → KsL w' v l) : ∀ {cs : List Value} {xs : List ItP}, ItAll w cs xs → ItAll w' cs xs
  | [], [], _ => trivial
  | _ :: _ :: _ :: _ :: r, _ :: xs, h => ⟨h.1, h.2.1, hf _ _ h.2.2.1, hk _ _ h.2.2.2.2.1 h.2.2.2.1, h.2.2.2.2.1, ItAll.map hf hk h.2.2.2.2.2⟩
  | [], _ :: _, h => h.elim
  | [_], _, h => by cases ‹List ItP› <;> exact h.elim
  | [_, _], _, h => by cases ‹List ItP› <;> exact h.elim
  | [_, _, _], _, h => by cases ‹List ItP› <;> exact h.elim
  | _ :: _ :: _ :: _ :: _, [], h => h.elim
theorem ItAll.append {w : World} {us : List Value} {ys : List ItP} (hy : ItAll w us ys) : ∀ {cs : List Value} {xs : List ItP}, ItAll w cs xs → ItAll w (cs ++ us) (xs ++ ys)
  | [], [], _ => hy
  | _ :: _ :: _ :: _ :: r, _ :: xs, h => ⟨h.1, h.2.1, h.2.2.1, h.2.2.2.1, h.2.2.2.2.1, ItAll.append hy h.2.2.2.2.2⟩
  | [], _ :: _, h => h.elim
  | [_], _, h => by cases ‹List ItP› <;> exact h.elim
  | [_, _], _, h => by cases ‹List ItP› <;> exact h.elim
  | [_, _, _], _, h => by cases ‹List ItP› <;> exact h.elim
  | _ :: _ :: _ :: _ :: _, [], h => h.elim
theorem ItAll.get {w : World} : ∀ {cs : List Value} {xs : List ItP}, ItAll w cs xs → ∀ i, i < xs.length → ∃ vb vl, cs[i * 4]? = some (.int .i64 (nthI xs i).kind) ∧ cs[i * 4 + 1]? = some (.int .u64 (n64 (nthI xs i).n)) ∧ cs[i * 4 + 2]? = some vb ∧ cs[i * 4 + 3]? = some vl ∧ Bs w vb (nthI xs i).b ∧ KsL w vl (nthI xs i).l ∧ itKeys (nthI xs i)
  | [], [], _, i, hi => absurd hi (by simp)
  | _ :: _ :: vb :: vl :: r, x :: xs, h, 0, _ => by
    obtain ⟨h1, h2, h3, h4, h5, _⟩ := h
    subst h1; subst h2
    have e : nthI (x :: xs) 0 = x := by rw [nthI_def]; rfl
    rw [e]
    exact ⟨vb, vl, rfl, rfl, rfl, rfl, h3, h4, h5⟩
  | _ :: _ :: _ :: _ :: r, x :: xs, h, i + 1, hi => by
    obtain ⟨vb, vl, h1⟩ := ItAll.get (cs := r) (xs := xs) h.2.2.2.2.2 i (by simpa using hi)
    have e : nthI (x :: xs) (i + 1) = nthI xs i := by rw [nthI_def, nthI_def]; simp
    rw [e, show (i + 1) * 4 = i * 4 + 4 by omega]
    exact ⟨vb, vl, h1⟩
  | [], _ :: _, h, _, _ => h.elim
  | [_], _, h, _, _ => by cases ‹List ItP› <;> exact h.elim
  | [_, _], _, h, _, _ => by cases ‹List ItP› <;> exact h.elim
  | [_, _, _], _, h, _, _ => by cases ‹List ItP› <;> exact h.elim
  | _ :: _ :: _ :: _ :: _, [], h, _, _ => h.elim
/-- an own list of items -/
def OwnI (T : TypeId) (w : World) (base : Nat) (v : Value) (xs : List ItP) : Prop := ∃ cs, OwnG T 4 no8V w base v xs.length cs ∧ ItAll w cs xs
theorem OwnI.nil (T : TypeId) (w : World) (base : Nat) : OwnI T w base (.slice none 0 0) [] := ⟨[], OwnG.nil _ _ _ _ _, trivial⟩
theorem OwnI.step {T : TypeId} {w w' : World} {base : Nat} {v : Value} {xs : List ItP} (h : OwnI T w base v xs) (hb : Below w.heap.size w w') : OwnI T w' base v xs := by
  obtain ⟨cs, h1, h2⟩ := h
  exact ⟨cs, h1.step hb, h2.map (fun _ _ h => h.step hb) (fun _ _ _ h => h.step hb)⟩
theorem OwnI.slice {T : TypeId} {w : World} {base : Nat} {v : Value} {xs : List ItP} (h : OwnI T w base v xs) : ∃ A c, v = .slice A xs.length c ∧ xs.length ≤ c := by obtain ⟨cs, h1, _⟩ := h; exact h1.slice
/-- a block that holds no bytes, and is none of the list's, has turned -/
theorem OwnI.upd {T : TypeId} {w w' : World} {base g : Nat} {v : Value} {xs : List ItP} (h : OwnI T w base v xs) (hu : Upd g w w') (hn : No8 w g) (hg : g < base) : OwnI T w' base v xs := by
  obtain ⟨cs, h1, h2⟩ := h
  exact ⟨cs, h1.keep fun k _ hk hl => hu.block k hl (by omega), h2.map (fun _ _ h => h.upd hu hn) (fun _ _ hk h => h.upd hk hu hn)⟩
theorem OwnI.its {T : TypeId} {w : World} {base : Nat} {v : Value} {xs : List ItP} (h : OwnI T w base v xs) : ItsL w v xs := by
  obtain ⟨cs, h1, h2⟩ := h
  obtain ⟨A, c, e, hc⟩ := h1.slice
  refine ⟨A, c, e, hc, fun h0 => ?_⟩
  obtain ⟨g, o, c', e', _, hg⟩ := h1.addr h0
  rw [e'] at e
  injection e with e1 e2 e3
  refine ⟨g, o, e1.symm, hg, fun i hi => ?_⟩
  obtain ⟨vb, vl, q0, q1, q2, q3, q4, q5, q6⟩ := h2.get i hi
  exact ⟨vb, vl, h1.range e' _ q0, by have := h1.range e' _ q1; rw [← Nat.add_assoc] at this; exact this, by have := h1.range e' _ q2; rw [← Nat.add_assoc] at this; exact this, by have := h1.range e' _ q3; rw [← Nat.add_assoc] at this; exact this, q4, q5, q6⟩
def ItInfo (T : TypeId) : Prop := (Try.prog.info? T).map (fun i => (i.zero, i.size, i.bytes)) = some (some (.agg #[.int .i64 0, .int .u64 0, .slice none 0 0, .slice none 0 0]), 4, 64)
theorem itInfo : ItInfo 43 := by unfold ItInfo; kernel_rfl
theorem ritInfo : ItInfo 44 := by unfold ItInfo; kernel_rfl
theorem wp_appendI {t T : TypeId} (ht : Try.prog.underlying t = some (.slice T)) (hinfo : ItInfo T) {w : World} {o : Oper} {a : Act} {K : Act → World → Prop} {Q : Exit → Act → World → Prop} (sl x : Operand) (ho : o.op = .call { callee := .builtin .append, args := #[sl, x], argTypes := #[t, t] })
    {base N b : Nat} {v vb vl : Value} {xs : List ItP} {y : ItP} (hsv : a.eval sl = v) (hown : OwnI T w base v xs) (hx : a.eval x = .slice (some ⟨b, 0, none⟩) 1 1) (hr : RowIs w b (itC y vb vl)) (hvb : Bs w vb y.b) (hvl : KsL w vl y.l) (hk : itKeys y) (hN : xs.length + 1 = N) (hb : N ≤ 1000000) (hbase : base ≤ w.heap.size)
    (hK : ∀ A' c' w', OwnI T w' base (.slice A' N c') (xs ++ [y]) → w.grownBy w' v.ownBlock → ((Value.slice A' N c').ownBlock = v.ownBlock ∨ (Value.slice A' N c').ownBlock = some w.heap.size) → Below base w w' → (∀ k, v.ownBlock = some k → No8 w k) → K (a.put o.dst (.slice A' N c')) w') : o.wp Try.prog a w K Q := by
  obtain ⟨cs, h1, h2⟩ := hown
  obtain ⟨i, hi1, hz, hs1, hb1⟩ := info_parts hinfo
  obtain ⟨Ab, nb, cb, rfl⟩ := hvb.isSlice
  obtain ⟨Al, nl, cl, rfl⟩ := hvl.isSlice
  have hno : ∀ k, v.ownBlock = some k → No8 w k := fun k hk => h1.no8 (fun _ => rfl) hk
  refine wp_appendG (p := no8V) (s := 4) ht hi1 hz hs1 hb1 rfl (by omega) (by simp [Value.cells, no8V]) sl x ho hsv h1 hx (m := 1) (news := [.int .i64 y.kind, .int .u64 (n64 y.n), .slice Ab nb cb, .slice Al nl cl]) rfl (fun _ => ⟨b, 0, rfl, fun j u hu => ?_⟩) ?_ ?_ hN (by simp only [maxLen]; omega) (by omega) hbase (fun A' c' w' q1 q2 q3 => hK A' c' w' ⟨_, by rw [List.length_append, List.length_singleton, hN]; exact q1, ?_⟩ q2 q3 (h1.below q2 hbase) hno)
  · obtain ⟨t', ht'⟩ := hr.row.heap
    rw [hr.has] at ht'
    rw [Nat.zero_add, cell_of_row w b j _ t' (0, 0) ht']
    simpa using hu
  · intro u hu
    simp only [List.mem_cons, List.not_mem_nil, or_false] at hu
    rcases hu with rfl | rfl | rfl | rfl <;> rfl
  · intro u hu
    simp only [List.mem_cons, List.not_mem_nil, or_false] at hu
    rcases hu with rfl | rfl | rfl | rfl <;> rfl
  · exact ItAll.append (show ItAll w' [.int .i64 y.kind, .int .u64 (n64 y.n), .slice Ab nb cb, .slice Al nl cl] [y] from ⟨rfl, rfl, hvb.grown q2 hno, hvl.grown hk q2 hno, hk, trivial⟩) (h2.map (fun _ _ h => h.grown q2 hno) (fun _ _ hk h => h.grown hk q2 hno))
theorem wpList_appendI {t T : TypeId} (ht : Try.prog.underlying t = some (.slice T)) (hinfo : ItInfo T) {w : World} {o : Oper} {a : Act} {ops : Array Oper} {rest : List Oper} {Q : Exit → Act → World → Prop} (hgd : o.guard = none) (sl x : Operand) (ho : o.op = .call { callee := .builtin .append, args := #[sl, x], argTypes := #[t, t] })
    {base N b : Nat} {v vb vl : Value} {xs : List ItP} {y : ItP} (hsv : a.eval sl = v) (hown : OwnI T w base v xs) (hx : a.eval x = .slice (some ⟨b, 0, none⟩) 1 1) (hr : RowIs w b (itC y vb vl)) (hvb : Bs w vb y.b) (hvl : KsL w vl y.l) (hk : itKeys y) (hN : xs.length + 1 = N) (hb : N ≤ 1000000) (hbase : base ≤ w.heap.size)
    (hK : ∀ A' c' w', OwnI T w' base (.slice A' N c') (xs ++ [y]) → w.grownBy w' v.ownBlock → ((Value.slice A' N c').ownBlock = v.ownBlock ∨ (Value.slice A' N c').ownBlock = some w.heap.size) → Below base w w' → (∀ k, v.ownBlock = some k → No8 w k) → wpList Try.prog ops Q rest (a.put o.dst (.slice A' N c')) w') : wpList Try.prog ops Q (o :: rest) a w :=
  wpList_plain hgd fun _ hK' => wp_appendI ht hinfo sl x ho hsv hown hx hr hvb hvl hk hN hb hbase fun A' c' w' q1 q2 q3 q4 q5 => hK' _ _ (hK A' c' w' q1 q2 q3 q4 q5)
end
section
open Go.RowKit
theorem ItsL.isSlice {w : World} {g o : Nat} {x : ItP} {vb vl : Value} (h : ItAt w g o x vb vl) : ∃ A1 c1 A2 c2, vb = .slice A1 x.b.length c1 ∧ vl = .slice A2 x.l.length c2 := by
  obtain ⟨A, c, e, _⟩ := h.b
  obtain ⟨A', c', e', _⟩ := h.l
  exact ⟨A, c, A', c', e, e'⟩
/-- what short tells -/
def shortP (xs : List ItP) : Bool := decide (xs.length ≤ 20) && xs.all (fun x => decide (x.b.length ≤ 5000) && decide (x.l.length ≤ 120))
theorem short_not {xs : List ItP} {k : Nat} (hk : k < xs.length) (h : 5000 < (nthI xs k).b.length ∨ 120 < (nthI xs k).l.length) : shortP xs = false := by
  unfold shortP
  have : xs.all (fun x => decide (x.b.length ≤ 5000) && decide (x.l.length ≤ 120)) = false := by
    rw [List.all_eq_false]
    refine ⟨_, nthI_mem hk, ?_⟩
    rcases h with h | h <;> simp <;> omega
  rw [this, Bool.and_false]
theorem short_yes {xs : List ItP} (h20 : xs.length ≤ 20) (h : ∀ k, k < xs.length → ¬ 5000 < (nthI xs k).b.length ∧ ¬ 120 < (nthI xs k).l.length) : shortP xs = true := by
  unfold shortP
  rw [decide_eq_true h20, Bool.true_and, List.all_eq_true]
  intro x hx
  obtain ⟨i, hi, rfl⟩ := List.getElem_of_mem hx
  rw [nthI_get hi]
  have := h i hi
  simp; omega
theorem short_small {xs : List ItP} (h : shortP xs = true) : xs.length ≤ 20 ∧ ∀ x ∈ xs, itSmall x := by
  unfold shortP at h
  rw [Bool.and_eq_true, decide_eq_true_eq, List.all_eq_true] at h
  refine ⟨h.1, fun x hx => ?_⟩
  have := h.2 x hx
  rw [Bool.and_eq_true, decide_eq_true_eq, decide_eq_true_eq] at this
  exact this
set_option maxRecDepth 100000 in
set_option maxHeartbeats 1600000 in
theorem short_any (v : Value) (xs : List ItP) (w : World) (h : ItsL w v xs) :
    Calls Try.prog 16 #[v] w fun e w' => e = .returned (.bool (shortP xs)) ∧ w = w' := by
  obtain ⟨A, c, rfl, hc, hel⟩ := h
  by_cases h20 : 20 < xs.length
  · have i1 : (20 : Int) < xs.length := by omega
    have hs : shortP xs = false := by unfold shortP; rw [decide_eq_false (by omega), Bool.false_and]
    rw [hs]
    clear hel
    go_enter Try.func16, Try.ntmps16
    go_wp2_with fail
    go_ret
    exact ⟨rfl, rfl⟩
  · have HEL := Lib.hid hel
    obtain ⟨n, hN⟩ : ∃ n, n = xs.length := ⟨_, rfl⟩
    have HN := Lib.hid hN
    rw [← hN] at hc h20 ⊢
    have i1 : ¬ (20 : Int) < n := by omega
    clear hel hN
    go_enter Try.func16, Try.ntmps16
    go_wp2_with fail
    go_loopw [3] (fun i wr => ∃ k : Nat, k ≤ n ∧ i = .int .i64 k ∧ Hid (∀ j, j < k → ¬ 5000 < (nthI xs j).b.length ∧ ¬ 120 < (nthI xs j).l.length) ∧ wr = w) (fun i _ => n - (intOf i).toNat)
    case atStart => exact ⟨0, by omega, rfl, Lib.hid (fun x hx => absurd hx (by omega)), rfl⟩
    case round =>
      obtain ⟨k, hk, rfl, hno, hwr⟩ := hrel
      subst hwr
      by_cases hlt : k < n
      · have hlt' : k < xs.length := by rw [← HN.out]; exact hlt
        obtain ⟨g, o, rfl, hg, hit⟩ := HEL.out (by omega)
        obtain ⟨vb, vl, it⟩ := hit k hlt'
        obtain ⟨A1, c1, A2, c2, rfl, rfl⟩ := ItsL.isSlice it
        obtain ⟨q0, q1, q2, q3, -, -, -⟩ := it
        have hk0 : (0 : Int) ≤ (k : Int) := by omega
        have hk1 : (k : Int) < (n : Int) := by omega
        have hbad := short_not (xs := xs) hlt'
        have HB := Lib.hid hbad
        obtain ⟨x, hx⟩ : ∃ x, x = nthI xs k := ⟨_, rfl⟩
        rw [← hx] at q0 q1 q2 q3 HB
        have HX := Lib.hid hx
        clear hit hx hbad q0 q1
        by_cases h5 : 5000 < x.b.length
        · have j1 : (5000 : Int) < x.b.length := by omega
          have hs := HB.out (.inl h5)
          have HS := Lib.hid hs
          clear hs
          go_wp2_with fail
          go_ret
          exact ⟨by rw [HS.out]; rfl, rfl⟩
        · have j1 : ¬ (5000 : Int) < x.b.length := by omega
          by_cases h12 : 120 < x.l.length
          · have j2 : (120 : Int) < x.l.length := by omega
            have hs := HB.out (.inr h12)
            have HS := Lib.hid hs
            clear hs
            go_wp2_with fail
            go_ret
            exact ⟨by rw [HS.out]; rfl, rfl⟩
          · have j2 : ¬ (120 : Int) < x.l.length := by omega
            go_wp2_with fail
            exact ⟨⟨k + 1, by omega, by go_num, Lib.hid (fun j hj => by
              rcases Nat.lt_or_ge j k with h | h
              · exact hno.out j h
              · obtain rfl : j = k := by omega
                rw [← HX.out]; exact ⟨h5, h12⟩), by first | rfl | trivial⟩, by simp [intOf]; omega⟩
      · have e : k = n := by omega
        have hs : shortP xs = true := short_yes (by rw [← HN.out]; omega) (fun j hj => hno.out j (by rw [e, HN.out]; exact hj))
        subst e
        have HS := Lib.hid hs
        clear hs
        go_wp2_with fail
        go_ret
        exact ⟨by rw [HS.out]; rfl, rfl⟩
theorem take_succI (xs : List ItP) (k : Nat) (h : k < xs.length) : xs.take (k + 1) = xs.take k ++ [nthI xs k] := by
  rw [List.take_add_one, List.getElem?_eq_getElem h, nthI_get h]; rfl
def ItsTo (xs : List ItP) (w : World) (e : Ending) (w' : World) : Prop := ∃ u, e = .returned u ∧ ItsL w' u xs ∧ Below w.heap.size w w'
set_option maxRecDepth 100000 in
set_option maxHeartbeats 1600000 in
theorem doc_any (v : Value) (xs : List ItP) (w : World) (h : ItsL w v xs) (hn : xs.length ≤ 1000) :
    Calls Try.prog 19 #[v] w (ItsTo xs w) := by
  obtain ⟨A, c, rfl, hc, hel⟩ := h
  have HEL := Lib.hid hel
  obtain ⟨n, hN⟩ : ∃ n, n = xs.length := ⟨_, rfl⟩
  have HN := Lib.hid hN
  rw [← hN] at hc hn ⊢
  clear hel hN
  go_enter Try.func19, Try.ntmps19
  go_wp2_with fail
  go_loopw [3, 4] (fun v i wr => ∃ k : Nat, k ≤ n ∧ i = .int .i64 k ∧ OwnI 44 wr w.heap.size v (xs.take k) ∧ Below w.heap.size w wr) (fun _ i _ => n - (intOf i).toNat)
  case atStart => exact ⟨0, by omega, rfl, OwnI.nil _ _ _, Below.refl _ _⟩
  case round =>
    obtain ⟨k, hk, rfl, own, hb⟩ := hrel
    by_cases hlt : k < n
    · have hlt' : k < xs.length := by rw [← HN.out]; exact hlt
      obtain ⟨g, o, rfl, hg, hit⟩ := HEL.out (by omega)
      obtain ⟨vb, vl, it⟩ := hit k hlt'
      have it2 := it.step hg hb
      obtain ⟨A1, c1, A2, c2, rfl, rfl⟩ := ItsL.isSlice it
      obtain ⟨q0, q1, q2, q3, hvb, hvl, hkk⟩ := it2
      have hk0 : (0 : Int) ≤ (k : Int) := by omega
      have hk1 : (k : Int) < (n : Int) := by omega
      have hsucc := take_succI xs k hlt'
      have htl : (xs.take k).length + 1 = k + 1 := by rw [List.length_take]; omega
      obtain ⟨x, hx⟩ : ∃ x, x = nthI xs k := ⟨_, rfl⟩
      rw [← hx] at q0 q1 q2 q3 hvb hvl hkk hsucc
      have HSU := Lib.hid hsucc
      have HTL := Lib.hid htl
      obtain ⟨X, hX⟩ : ∃ X, X = xs.take k := ⟨_, rfl⟩
      rw [← hX] at own HSU HTL
      have hsz := hb.size
      have hq : Below wr.heap.size wr (wr.alloc (.cells (itC x (.slice A1 x.b.length c1) (.slice A2 x.l.length c2)) 44)).drew := (by repeat (first | with_reducible exact Below.refl _ _ | with_reducible assumption | refine Below.drew ?_ | refine below_drewN ?_ | refine Below.alloc ?_ (by first | omega | (simp; done) | (simp; omega)) _ | refine below_setRow ?_ (by omega) _ | refine Below.setCell ?_ (by first | omega | (simp; done) | (simp; omega)) _))
      have R1 : RowIs (wr.alloc (.cells (itC x (.slice A1 x.b.length c1) (.slice A2 x.l.length c2)) 44)).drew wr.heap.size (itC x (.slice A1 x.b.length c1) (.slice A2 x.l.length c2)) := (RowIs.new wr _ _).step (by repeat (first | with_reducible exact Below.refl _ _ | with_reducible assumption | refine Below.drew ?_ | refine below_drewN ?_ | refine Below.alloc ?_ (by first | omega | (simp; done) | (simp; omega)) _ | refine below_setRow ?_ (by omega) _ | refine Below.setCell ?_ (by first | omega | (simp; done) | (simp; omega)) _))
      have own1 := own.step hq
      have hvb1 := hvb.step hq
      have hvl1 := hvl.step hq
      have hz1 := hq.size
      clear hit it hx hX hsucc htl
      go_wp2_with (first | (refine wp_region_lex [] (by kernel_rfl) (by decide +kernel) ?_) | (refine wpLex_nil ?_) | (refine wpLex_pure rfl (fun _ _ => ?_); go_simp; try go_bits) | (refine wpLex_read rfl (fun _ _ => ?_); go_simp; try go_bits) | (refine wpLex_loud rfl (fun _ _ => ?_)) | (at_builtin; go_loud (refine wpList_appendI Try.underlying30 ritInfo rfl (.tmp 11) (.tmp 33) rfl rfl own1 rfl R1 hvb1 hvl1 hkk HTL.out (by omega) (Nat.le_trans hsz hz1) ?_); intro A5 c5 w5 own5 gr5 ob5 bel5 no5))
      rw [← HSU.out] at own5
      exact ⟨⟨k + 1, by omega, by go_num, own5, (hb.trans (hq.mono hsz)).trans bel5⟩, by simp [intOf]; omega⟩
    · have e : k = n := by omega
      rw [List.take_of_length_le (by rw [e, HN.out]; exact Nat.le_refl _)] at own
      subst e
      go_wp2_with fail
      go_ret
      exact ⟨_, rfl, own.its, hb⟩
end
section
open Go.RowKit
theorem refkind_any (k : Int) (w : World) : Calls Try.prog 62 #[.int .i64 k] w fun e w' => e = .returned (.bool (kindOk k)) ∧ w = w' := by
  by_cases h1 : k = 1
  · subst h1
    go_enter Try.func62, Try.ntmps62
    go_wp2_with fail
    go_ret
    exact ⟨rfl, rfl⟩
  have f1 : (k == (1 : Int)) = false := by simpa using h1
  by_cases h2 : k = 2
  · subst h2
    go_enter Try.func62, Try.ntmps62
    go_wp2_with fail
    go_ret
    exact ⟨rfl, rfl⟩
  have f2 : (k == (2 : Int)) = false := by simpa using h2
  by_cases h4 : k = 4
  · subst h4
    go_enter Try.func62, Try.ntmps62
    go_wp2_with fail
    go_ret
    exact ⟨rfl, rfl⟩
  have f4 : (k == (4 : Int)) = false := by simpa using h4
  by_cases h8 : k = 8
  · subst h8
    go_enter Try.func62, Try.ntmps62
    go_wp2_with fail
    go_ret
    exact ⟨rfl, rfl⟩
  have f8 : (k == (8 : Int)) = false := by simpa using h8
  by_cases h9 : k = 9
  · subst h9
    go_enter Try.func62, Try.ntmps62
    go_wp2_with fail
    go_ret
    exact ⟨rfl, rfl⟩
  have f9 : (k == (9 : Int)) = false := by simpa using h9
  have e : kindOk k = (k == (32 : Int)) := by unfold kindOk sizeOk; by_cases h : k = 32 <;> simp [h, h1, h2, h4, h8, h9]
  rw [e]
  clear h1 h2 h4 h8 h9 e
  go_enter Try.func62, Try.ntmps62
  go_wp2_with fail
  go_ret
  exact ⟨rfl, rfl⟩
set_option maxRecDepth 100000 in
set_option maxHeartbeats 6400000 in
theorem refencode_any (v : Value) (xs : List ItP) (w : World) (h : ItsL w v xs) (hn : xs.length ≤ 20) (hs : ∀ x ∈ xs, itSmall x ∧ itKeys x) :
    Calls Try.prog 18 #[v] w (EncTo xs w) := by
  have HS := Lib.hid hs
  obtain ⟨A, c, rfl, hc, hel⟩ := h
  have HEL := Lib.hid hel
  obtain ⟨n, hN⟩ : ∃ n, n = xs.length := ⟨_, rfl⟩
  have HN := Lib.hid hN
  rw [← hN] at hc hn ⊢
  clear hs hel hN
  go_enter Try.func18, Try.ntmps18
  go_wp2_with fail
  go_loopw [4] (fun i wr => ∃ k : Nat, k ≤ n ∧ i = .int .i64 k ∧ Hid (∀ j, j < k → kindOk (nthI xs j).kind = true) ∧ wr = w) (fun i _ => n - (intOf i).toNat)
  case atStart => exact ⟨0, by omega, rfl, Lib.hid (fun x hx => absurd hx (by omega)), rfl⟩
  case round =>
    obtain ⟨k, hk, rfl, hno, hwr⟩ := hrel
    subst hwr
    by_cases hlt : k < n
    · have hlt' : k < xs.length := by rw [← HN.out]; exact hlt
      obtain ⟨g, o, rfl, hg, hit⟩ := HEL.out (by omega)
      obtain ⟨vb, vl, it⟩ := hit k hlt'
      obtain ⟨q0, -, -, -, -, -, -⟩ := it
      have hk0 : (0 : Int) ≤ (k : Int) := by omega
      have hk1 : (k : Int) < (n : Int) := by omega
      obtain ⟨x, hx⟩ : ∃ x, x = nthI xs k := ⟨_, rfl⟩
      rw [← hx] at q0
      have HX := Lib.hid hx
      clear hit hx
      go_wp2_with fail
      refine (refkind_any x.kind _).mono ?_
      rintro e w1 ⟨rfl, hww⟩
      subst hww
      cases hw' : kindOk x.kind with
      | true =>
        have HW := Lib.hid hw'
        clear hw'
        go_wp2_with fail
        exact ⟨⟨k + 1, by omega, by go_num, Lib.hid (fun j hj => by
          rcases Nat.lt_or_ge j k with h | h
          · exact hno.out j h
          · obtain rfl : j = k := by omega
            rw [← HX.out]; exact HW.out), by first | rfl | trivial⟩, by simp [intOf]; omega⟩
      | false =>
        have hall := all_not hlt' (by rw [← HX.out]; exact hw')
        have ep : encP xs = ([], 51) := by unfold encP; rw [hall]; rfl
        have EP := Lib.hid ep
        clear hw' hall ep
        go_wp2_with fail
        refine bodyPost_ret (results_tmp2 rfl _ _ _) rfl ?_
        exact ⟨_, by rw [EP.out]; rfl, by rw [EP.out]; exact Bs.nil _, Below.refl _ _⟩
    · have e : k = n := by omega
      have hall := all_yes (xs := xs) (fun j hj => hno.out j (by rw [e, HN.out]; exact hj))
      subst e
      have HALL := Lib.hid hall
      clear hall hno
      go_wp2_with fail
      obtain ⟨og, hog⟩ : ∃ og, og = wr.heap.size := ⟨_, rfl⟩
      have ho0 : OutIs (wr.alloc (.cells #[.slice none 0 0, .int .i64 0] 52)) og ⟨[], 0⟩ := ⟨_, RowIs.new' hog, Bs.nil _⟩
      rw [← hog]
      have HOG := Lib.hid hog
      clear hog
      go_loopw [7] (fun i W => ∃ j : Nat, j ≤ k ∧ i = .int .i64 j ∧ OutIs W og (encK xs j) ∧ Below wr.heap.size wr W) (fun i _ => k - (intOf i).toNat)
      case atStart => exact ⟨0, Nat.zero_le _, rfl, ho0, (by repeat (first | with_reducible exact Below.refl _ _ | with_reducible assumption | refine Below.drew ?_ | refine below_drewN ?_ | refine Below.alloc ?_ (by first | omega | (simp; done) | (simp; omega)) _ | refine below_setRow ?_ (by omega) _ | refine Below.setCell ?_ (by first | omega | (simp; done) | (simp; omega)) _))⟩
      case round =>
        rename_i W
        obtain ⟨j, hj, rfl, ho, hb⟩ := hrel
        by_cases hlt : j < k
        · have hlt' : j < xs.length := by rw [← HN.out]; exact hlt
          obtain ⟨g, o, rfl, hg, hit⟩ := HEL.out (by omega)
          obtain ⟨vb, vl, it⟩ := hit j hlt'
          have it2 := it.step hg hb
          obtain ⟨A1, c1, A2, c2, rfl, rfl⟩ := ItsL.isSlice it
          obtain ⟨q0, q1, q2, q3, hvb, hvl, hkk⟩ := it2
          have hsm := (HS.out _ (nthI_mem hlt')).1
          have hlen := encK_len xs HS.out j (by omega)
          have hsucc : encK xs (j + 1) = putIt (encK xs j) (nthI xs j) := rfl
          obtain ⟨x, hx⟩ : ∃ x, x = nthI xs j := ⟨_, rfl⟩
          rw [← hx] at q0 q1 q2 q3 hvb hvl hkk hsm hsucc
          have hj0 : (0 : Int) ≤ (j : Int) := by omega
          have hj1 : (j : Int) < (k : Int) := by omega
          have HSU := Lib.hid hsucc
          clear it hit hx hsucc
          by_cases h9 : x.kind = 9
          · have hput : putIt (encK xs j) x = obytesP (encK xs j) x.b := by unfold putIt; rw [if_pos h9]
            have HPUT := Lib.hid hput
            have hbD := hb
            have hsm1 := hsm.1
            rw [h9] at q0
            have P := Lib.hid (refoutbytes_any og (encK xs j) (.slice A1 x.b.length c1) x.b _ ho hvb (by omega))
            clear hput h9
            go_wp2_with fail
            refine P.out.mono ?_
            rintro e w5 ⟨rfl, ho5, hu5⟩
            go_wp2_with fail
            exact ⟨⟨j + 1, by omega, by go_num, by rw [HSU.out, HPUT.out]; exact ho5, hu5.below hbD (by have := HOG.out; omega) hbD.size⟩, by simp [intOf]; omega⟩
          · have f9 : (x.kind == (9 : Int)) = false := by simpa using h9
            by_cases h32 : x.kind = 32
            · have hput : putIt (encK xs j) x = okeysP (encK xs j) x.l := by unfold putIt; rw [if_neg h9, if_pos h32]
              have HPUT := Lib.hid hput
              have hbD := hb
              have hsm2 := hsm.2
              rw [h32] at q0 f9
              have P := Lib.hid (refoutkeys_any og (encK xs j) (.slice A2 x.l.length c2) x.l _ ho hvl hkk (by omega) (by omega))
              clear hput h9 h32 f9
              go_wp2_with fail
              refine P.out.mono ?_
              rintro e w5 ⟨rfl, ho5, hu5⟩
              go_wp2_with fail
              exact ⟨⟨j + 1, by omega, by go_num, by rw [HSU.out, HPUT.out]; exact ho5, hu5.below hbD (by have := HOG.out; omega) hbD.size⟩, by simp [intOf]; omega⟩
            · have f32 : (x.kind == (32 : Int)) = false := by simpa using h32
              have hput : putIt (encK xs j) x = onumP (encK xs j) x.n x.kind := by unfold putIt; rw [if_neg h9, if_neg h32]
              have HPUT := Lib.hid hput
              have hd : ∀ W : World, Below W.heap.size W W.drew := fun W => (by repeat (first | with_reducible exact Below.refl _ _ | with_reducible assumption | refine Below.drew ?_ | refine below_drewN ?_ | refine Below.alloc ?_ (by first | omega | (simp; done) | (simp; omega)) _ | refine below_setRow ?_ (by omega) _ | refine Below.setCell ?_ (by first | omega | (simp; done) | (simp; omega)) _))
              have hbD := hb.trans ((hd _).mono hb.size)
              have P := Lib.hid (refoutnum_any og (encK xs j) x.n x.kind _ (ho.step (hd _)) (by omega))
              clear hput h9 h32
              go_wp2_with (first | (refine wp_region_lex [] (by kernel_rfl) (by decide +kernel) ?_) | (refine wpLex_nil ?_) | (refine wpLex_pure rfl (fun _ _ => ?_); go_simp; try go_bits) | (refine wpLex_read rfl (fun _ _ => ?_); go_simp; try go_bits) | (refine wpLex_loud rfl (fun _ _ => ?_)))
              refine P.out.mono ?_
              rintro e w5 ⟨rfl, ho5, hu5⟩
              go_wp2_with (first | (refine wp_region_lex [] (by kernel_rfl) (by decide +kernel) ?_) | (refine wpLex_nil ?_) | (refine wpLex_pure rfl (fun _ _ => ?_); go_simp; try go_bits) | (refine wpLex_read rfl (fun _ _ => ?_); go_simp; try go_bits) | (refine wpLex_loud rfl (fun _ _ => ?_)))
              exact ⟨⟨j + 1, by omega, by go_num, by rw [HSU.out, HPUT.out]; exact ho5, hu5.below hbD (by have := HOG.out; omega) hbD.size⟩, by simp [intOf]; omega⟩
        · have e : j = k := by omega
          have hlen := encK_len xs HS.out j (by rw [e, HN.out]; exact Nat.le_refl _)
          have hall : encP xs = doneP (encK xs j) := by
            have h1 := encK_out xs j (by rw [e, HN.out]; exact Nat.le_refl _)
            rw [List.take_of_length_le (by rw [e, HN.out]; exact Nat.le_refl _)] at h1
            unfold encP
            rw [if_pos HALL.out, h1]
          have HA := Lib.hid hall
          subst e
          clear hall
          go_wp2_with fail
          refine (refoutdone_any og _ _ ho).mono ?_
          rintro e w5 ⟨u, rfl, hu, hb5⟩
          go_wp2_with fail
          refine bodyPost_ret (results_tmp2 rfl _ _ _) rfl ?_
          exact ⟨u, by rw [HA.out]; rfl, by rw [HA.out]; exact hu, hb.trans (hb5.mono hb.size)⟩
end
end Go.Proofs.Ytifnpphkplogaaa
