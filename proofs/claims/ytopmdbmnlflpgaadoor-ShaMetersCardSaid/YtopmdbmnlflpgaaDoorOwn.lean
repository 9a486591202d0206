/- A slice of the call's own, of elements of any kind, that grows behind and may have let go what was ahead; elements appended. No program. -/
import Derived.Test.YtopmdbmnlflpgaaDoorUpd
import Derived.Test.YtopmdbmnlflpgaaDoorPart
import Derived.Deep.Upon
namespace Go.Proofs.YtopmdbmnlflpgaaDoor
open Go.RowKit
/-- an own slice of elements of s cells each, at an offset; all its block's cells meet p -/
def OwnG (T : TypeId) (s : Nat) (p : Value → Bool) (w : World) (base : Nat) (v : Value) (n : Nat) (xs : List Value) : Prop :=
  xs.length = n * s ∧ ((v = .slice none 0 0 ∧ n = 0) ∨ ∃ g o c cur, v = .slice (some ⟨g, o, none⟩) n c ∧ base ≤ g ∧ w.heap[g]? = some (.cells cur T (0, 0)) ∧ n ≤ c ∧ c ≤ maxLen ∧ o + c * s ≤ cur.size ∧ (cur.toList.drop o).take (n * s) = xs ∧ cur.all p = true)
section
variable {T : TypeId} {s : Nat} {p : Value → Bool} {w w' : World} {base n : Nat} {v : Value} {xs : List Value}
theorem OwnG.nil (T : TypeId) (s : Nat) (p : Value → Bool) (w : World) (base : Nat) : OwnG T s p w base (.slice none 0 0) 0 [] := ⟨by simp, .inl ⟨rfl, rfl⟩⟩
theorem OwnG.slice (h : OwnG T s p w base v n xs) : ∃ A c, v = .slice A n c ∧ n ≤ c := by
  rcases h.2 with ⟨h1, h2⟩ | ⟨g, o, c, cur, hv, _, _, hn, _⟩
  · exact ⟨none, 0, by rw [h1, h2], by omega⟩
  · exact ⟨_, _, hv, hn⟩
theorem OwnG.keep (h : OwnG T s p w base v n xs) (hb : ∀ k, v.ownBlock = some k → base ≤ k → k < w.heap.size → w'.heap[k]? = w.heap[k]?) : OwnG T s p w' base v n xs := by
  refine ⟨h.1, ?_⟩
  rcases h.2 with h | ⟨g, o, c, cur, hv, hg, hh, r⟩
  · exact .inl h
  · refine .inr ⟨g, o, c, cur, hv, hg, ?_, r⟩
    have hlt := (Array.getElem?_eq_some_iff.1 hh).1
    rw [hb g (by rw [hv]; rfl) hg hlt]; exact hh
theorem OwnG.step (h : OwnG T s p w base v n xs) (hb : Below w.heap.size w w') : OwnG T s p w' base v n xs := h.keep fun k _ _ hk => hb.block k hk
theorem OwnG.lt (h : OwnG T s p w base v n xs) {k : Nat} (hk : v.ownBlock = some k) : base ≤ k ∧ k < w.heap.size := by
  rcases h.2 with ⟨h1, _⟩ | ⟨g, o, c, cur, hv, hg, hh, _⟩
  · rw [h1] at hk; cases hk
  · rw [hv] at hk
    obtain rfl : g = k := Option.some.inj hk
    exact ⟨hg, (Array.getElem?_eq_some_iff.1 hh).1⟩
theorem OwnG.mono (h : OwnG T s p w base v n xs) {b : Nat} (hb : b ≤ base) : OwnG T s p w b v n xs := by
  refine ⟨h.1, ?_⟩
  rcases h.2 with h | ⟨g, o, c, cur, hv, hg, r⟩
  · exact .inl h
  · exact .inr ⟨g, o, c, cur, hv, by omega, r⟩
/-- a new row -/
theorem OwnG.new (T : TypeId) (s : Nat) (p : Value → Bool) (w : World) (base : Nat) (cs : List Value) (n : Nat) (hl : cs.length = n * s) (hp : ∀ u ∈ cs, p u = true) (hb : base ≤ w.heap.size) (hm : n ≤ maxLen) {g : Nat} (hg : g = w.heap.size) :
    OwnG T s p (w.alloc (.cells cs.toArray T)) base (.slice (some ⟨g, 0, none⟩) n n) n cs := by
  subst hg
  refine ⟨hl, .inr ⟨w.heap.size, 0, n, _, rfl, hb, heap_alloc_new w _, Nat.le_refl _, hm, by simp [hl], ?_, ?_⟩⟩
  · rw [List.drop_zero, ← hl, List.take_length]
  · rw [List.all_toArray, List.all_eq_true]; exact hp
theorem OwnG.len (h : OwnG T s p w base v n xs) : xs.length = n * s := h.1
/-- where its cells are -/
theorem OwnG.at (h : OwnG T s p w base v n xs) {g o m c : Nat} (hv : v = .slice (some ⟨g, o, none⟩) m c) : m = n ∧ g < w.heap.size ∧ w.rangeAt g o xs ∧ RowIs w g (rowOf w g) := by
  rcases h.2 with ⟨h1, _⟩ | ⟨g', o', c', cur, hv', hg, hh, hn, hm, hcs, htk, _⟩
  · rw [h1] at hv; cases hv
  · rw [hv'] at hv
    injection hv with e1 e2 e3
    injection e1 with e1
    injection e1 with e4 e5 e6
    subst e4; subst e5; subst e2
    refine ⟨rfl, (Array.getElem?_eq_some_iff.1 hh).1, fun j u hu => ?_, ⟨⟨_, _, hh⟩, rfl⟩⟩
    have hj := (List.getElem?_eq_some_iff.1 hu).1
    rw [h.1] at hj
    rw [← htk, List.getElem?_take, if_pos hj, List.getElem?_drop] at hu
    rw [cell_of_row w g' _ cur _ (0, 0) hh, ← Array.getElem?_toList]
    exact hu
theorem OwnG.addr (h : OwnG T s p w base v n xs) (h0 : 0 < n) : ∃ g o c, v = .slice (some ⟨g, o, none⟩) n c ∧ base ≤ g ∧ g < w.heap.size := by
  rcases h.2 with ⟨_, h1⟩ | ⟨g, o, c, cur, hv, hg, hh, _⟩
  · omega
  · exact ⟨g, o, c, hv, hg, (Array.getElem?_eq_some_iff.1 hh).1⟩
/-- its block's cells -/
theorem OwnG.all (h : OwnG T s p w base v n xs) {k i : Nat} {u : Value} (hk : v.ownBlock = some k) (hu : w.cell? ⟨k, i, none⟩ = some u) : p u = true := by
  rcases h.2 with ⟨h1, _⟩ | ⟨g, o, c, cur, hv, hg, hh, hn, hm, hcs, htk, hp⟩
  · rw [h1] at hk; cases hk
  · rw [hv] at hk
    obtain rfl : g = k := Option.some.inj hk
    rw [cell_of_row w g _ cur _ (0, 0) hh] at hu
    obtain ⟨hi, e⟩ := Array.getElem?_eq_some_iff.1 hu
    rw [← e]
    exact Array.all_eq_true.1 hp i hi
theorem OwnG.block (h : OwnG T s p w base v n xs) {k : Nat} (hk : v.ownBlock = some k) : ∃ cur, w.heap[k]? = some (.cells cur T (0, 0)) ∧ cur.all p = true := by
  rcases h.2 with ⟨h1, _⟩ | ⟨g, o, c, cur, hv, hg, hh, hn, hm, hcs, htk, hp⟩
  · rw [h1] at hk; cases hk
  · rw [hv] at hk
    obtain rfl : g = k := Option.some.inj hk
    exact ⟨cur, hh, hp⟩
theorem OwnG.ne_row (h : OwnG T s p w base v n xs) {q : Nat} {cs : Array Value} (hr : RowIs w q cs) (hn : cs.all p = false) : v.ownBlock ≠ some q := fun e => by
  obtain ⟨cur, hh, hp⟩ := h.block e
  have : cs = cur := by rw [← hr.has]; exact rowOf_eq hh
  rw [this, hp] at hn; cases hn
theorem OwnG.no8 (h : OwnG T s p w base v n xs) (hp : ∀ i, p (.int .u8 i) = false) {k : Nat} (hk : v.ownBlock = some k) : No8 w k := fun i b hc => by
  have := h.all hk hc
  rw [hp] at this; cases this
/-- the first ones let go -/
theorem OwnG.drop1 (h : OwnG T s p w base v n xs) {g o m c : Nat} (hv : v = .slice (some ⟨g, o, none⟩) m c) (h0 : 0 < n) : n ≤ c ∧ OwnG T s p w base (.slice (some ⟨g, o + s, none⟩) (n - 1) (c - 1)) (n - 1) (xs.drop s) := by
  have hl := h.1
  rcases h.2 with ⟨h1, _⟩ | ⟨g', o', c', cur, hv', hg, hh, hn, hm, hcs, htk, hp⟩
  · rw [h1] at hv; cases hv
  · rw [hv'] at hv
    injection hv with e1 e2 e3
    injection e1 with e1
    injection e1 with e4 e5 e6
    subst e4; subst e5; subst e3
    have e7 : c' * s = (c' - 1) * s + s := by rw [← Nat.succ_mul]; congr 1; omega
    have e8 : n * s = (n - 1) * s + s := by rw [← Nat.succ_mul]; congr 1; omega
    refine ⟨hn, by rw [List.length_drop, hl, e8]; omega, .inr ⟨g', o' + s, c' - 1, cur, rfl, hg, hh, by omega, by omega, by rw [e7] at hcs; omega, ?_, hp⟩⟩
    rw [← htk, List.drop_take, List.drop_drop, e8, Nat.add_sub_cancel]
/-- nothing of it, at its own place -/
theorem OwnG.void (h : OwnG T s p w base v n xs) {g o m c : Nat} (hv : v = .slice (some ⟨g, o, none⟩) m c) : OwnG T s p w base (.slice (some ⟨g, o, none⟩) 0 0) 0 [] := by
  rcases h.2 with ⟨h1, _⟩ | ⟨g', o', c', cur, hv', hg, hh, hn, hm, hcs, htk, hp⟩
  · rw [h1] at hv; cases hv
  · rw [hv'] at hv
    injection hv with e1 e2 e3
    injection e1 with e1
    injection e1 with e4 e5 e6
    subst e4; subst e5
    exact ⟨by simp, .inr ⟨g', o', 0, cur, rfl, hg, hh, Nat.le_refl _, by simp [maxLen], by omega, by simp, hp⟩⟩
/-- a beginning of it, as far as it is read -/
theorem OwnG.range (h : OwnG T s p w base v n xs) {g o m c : Nat} (hv : v = .slice (some ⟨g, o, none⟩) m c) (i : Nat) {u : Value} (hu : xs[i]? = some u) : w.cell? ⟨g, o + i, none⟩ = some u := (h.at hv).2.2.1 i u hu
end
/-- what stands behind an address is these cells -/
def SrcAt (w : World) (A : Option Addr) (news : List Value) : Prop := 0 < news.length → ∃ g o, A = some ⟨g, o, none⟩ ∧ ∀ j u, news[j]? = some u → w.cell? ⟨g, o + j, none⟩ = some u
theorem SrcAt.src {P : Program} {w : World} {t e : TypeId} {A : Option Addr} {s m c : Nat} {news : List Value} (ht : P.underlying t = some (.slice e)) (hs : 0 < s) (hl : news.length = m * s) (h : SrcAt w A news) (h1 : ∀ u ∈ news, u.oneCell' = true) : Src P s t (.slice A m c) m news w := by
  by_cases h0 : 0 < news.length
  · obtain ⟨g, o, rfl, hc⟩ := h h0
    exact Src.ofSlice w ht ⟨g, o, none⟩ m c news hl (fun j u hu => by rw [Addr.add_lit]; exact hc j u hu) h1
  · obtain rfl : news = [] := List.eq_nil_of_length_eq_zero (by omega)
    have hm : m = 0 := by
      have : m * s = 0 := by simpa using hl.symm
      rcases Nat.mul_eq_zero.1 this with h | h
      · exact h
      · omega
    subst hm
    cases A with
    | none => exact Src.ofNil w ht c
    | some a => exact Src.ofSlice w ht a 0 c [] (by simp) (fun j u hu => by simp at hu) (fun u hu => by cases hu)
theorem frozen_rowG {w : World} {g i : Nat} {cur : Array Value} {T : TypeId} (h : w.heap[g]? = some (.cells cur T (0, 0))) : w.frozen? ⟨g, i, none⟩ = false := by
  unfold World.frozen?
  rw [h]; simp
/-- ELEMENTS APPENDED -/
theorem run_appendG {P : Program} {t T : TypeId} {i : TypeInfo} {z : Value} {s by' : Nat} {p : Value → Bool} (ht : P.underlying t = some (.slice T)) (hi : P.info? T = some i) (hz : i.zero = some z) (hs : i.size = s) (hby : i.bytes = by') (hzs : z.cells.size = s) (hs0 : 0 < s) (hzp : z.cells.all p = true) (ty : TypeId)
    {w : World} {base n : Nat} {v : Value} {xs : List Value} (hown : OwnG T s p w base v n xs) {A : Option Addr} {m c : Nat} {news : List Value} (hl : news.length = m * s) (hsrc : SrcAt w A news) (h1 : ∀ u ∈ news, u.oneCell' = true) (hp : ∀ u ∈ news, p u = true)
    (h63 : n + m ≤ maxLen) (hbytes : (n + m) * by' ≤ 140737488355328) (hbase : base ≤ w.heap.size) :
    ∃ A' c' w', (Builtin.append_ #[t, t] ty #[v, .slice A m c]).run P w = .ok (.slice A' (n + m) c') w' ∧ OwnG T s p w' base (.slice A' (n + m) c') (n + m) (xs ++ news) ∧ w.grownBy w' v.ownBlock ∧ ((Value.slice A' (n + m) c').ownBlock = v.ownBlock ∨ (Value.slice A' (n + m) c').ownBlock = some w.heap.size) := by
  subst hs; subst hby
  have hS := hsrc.src (P := P) (m := m) (c := c) ht hs0 hl h1
  have hxl := hown.1
  have hLL : (xs ++ news).length = (n + m) * i.size := by rw [List.length_append, hxl, hl, Nat.add_mul]
  have hsm : n + m ≤ 9223372036854775807 := by simp only [maxLen] at h63; omega
  have grow : ∀ (bs : Option Addr) (sc : Nat), v = .slice bs n sc → sc < n + m → (Builtin.firstCells i.size n (.slice bs n sc)).run P w.drew = .ok xs.toArray w.drew →
      ∃ A' c' w', (Builtin.append_ #[t, t] ty #[v, .slice A m c]).run P w = .ok (.slice A' (n + m) c') w' ∧ OwnG T i.size p w' base (.slice A' (n + m) c') (n + m) (xs ++ news) ∧ w.grownBy w' v.ownBlock ∧ ((Value.slice A' (n + m) c').ownBlock = v.ownBlock ∨ (Value.slice A' (n + m) c').ownBlock = some w.heap.size) := by
    rintro bs sc rfl hg hold
    have hrun := run_append_grow_src (P := P) w t t ty T i z ht hi hz bs n sc xs hold (.slice A m c) m news hS hg (by omega) (growslice_fits hg hbytes)
    have hge := grownCap_ge w (n + m) sc T
    have hcm := grownCap_le_maxLen w (n + m) sc T h63
    refine ⟨_, _, _, hrun, ⟨hLL, .inr ⟨w.heap.size, 0, _, _, rfl, hbase, heap_alloc_new w.drew _, hge, hcm, ?_, ?_, ?_⟩⟩, ⟨rfl, rfl, rfl, by simp, fun k hk _ => Below.heap_alloc w.drew _ k hk⟩, .inr rfl⟩
    · rw [Array.size_append, List.size_toArray, hLL, size_zeroCells, hzs, ← Nat.add_mul, Nat.zero_add]
      apply Nat.mul_le_mul_right; omega
    · simp only [List.drop_zero, Array.toList_append]
      rw [← hLL]; exact List.take_left
    · rw [Array.all_append, Bool.and_eq_true]
      constructor
      · rw [List.all_toArray, List.all_eq_true]
        intro u hu
        rcases List.mem_append.1 hu with h | h
        · have hne : 0 < n := by
            rcases Nat.eq_zero_or_pos n with h0 | h0
            · rw [h0] at hxl; simp at hxl; rw [hxl] at h; cases h
            · exact h0
          obtain ⟨j, hj⟩ := List.getElem?_of_mem h
          obtain ⟨g, o, c0, e, _, _⟩ := hown.addr hne
          exact hown.all (k := g) (by rw [e]; rfl) (hown.range e j hj)
        · exact hp u h
      · have hz0 : 0 < z.cells.size := by rw [hzs]; exact hs0
        unfold Builtin.zeroCells
        rw [Array.all_eq_true]
        intro j hj
        have hjm : j % z.cells.size < z.cells.size := Nat.mod_lt _ hz0
        simp only [Array.getElem_map, Array.getElem_range]
        rw [getElem!_pos z.cells _ hjm]
        exact Array.all_eq_true.1 hzp _ hjm
  by_cases hm0 : m = 0
  · subst hm0
    obtain rfl : news = [] := List.eq_nil_of_length_eq_zero (by simpa using hl)
    obtain ⟨A', c', rfl, hc'⟩ := hown.slice
    refine ⟨A', c', w, run_append_nothing w t t ty T i ht hi A' n c' hc' _ hS, by simpa using hown, ⟨rfl, rfl, rfl, Nat.le_refl _, fun _ _ _ => rfl⟩, .inl rfl⟩
  rcases hown.2 with ⟨rfl, rfl⟩ | ⟨g, o, c0, cur, rfl, hg, hh, hnc, hcm, hcs, htk, hpp⟩
  · obtain rfl : xs = [] := List.eq_nil_of_length_eq_zero (by simpa using hxl)
    exact grow none 0 rfl (by omega) (run_firstCells_none w.drew i.size 0 0 0)
  · by_cases hroom : n + m ≤ c0
    · have hrc : (n + m) * i.size ≤ c0 * i.size := Nat.mul_le_mul_right _ hroom
      rw [Nat.add_mul] at hrc
      have hcl : cur.toList.length = cur.size := Array.length_toList
      have hrow : RowIs w g cur.toList.toArray := by
        rw [Array.toArray_toList]
        exact ⟨⟨_, _, hh⟩, rowOf_eq hh⟩
      have hrun := run_append_room_src (P := P) w t t ty T i ht hi g o n c0 (.slice A m c) m news hS hroom
        (fun j hj => by
          rw [cell_of_row w g _ cur _ (0, 0) hh, Array.getElem?_eq_getElem (by rw [hl] at hj; omega)]; rfl) (fun j _ => frozen_rowG hh)
      rw [setCells_row news (o + n * i.size) w cur.toList hrow (by rw [hcl, hl]; omega)] at hrun
      refine ⟨_, _, _, hrun, ⟨hLL, .inr ⟨g, o, c0, _, rfl, hg, setRow_heap w g cur _ _ _ hh, hroom, hcm, ?_, ?_, ?_⟩⟩, ⟨rfl, rfl, rfl, by simp, fun k _ hk => setRow_other w g k _ (fun e => hk (by simp [Value.ownBlock, e]))⟩, .inl rfl⟩
      · rw [List.size_toArray, spl_length _ _ _ (by rw [hl, hcl]; omega), hcl]; exact hcs
      · have l1 : (cur.toList.take (o + n * i.size)).length = o + n * i.size := by rw [List.length_take, hcl]; omega
        have l2 : ((cur.toList.drop o).take (n * i.size)).length = n * i.size := by rw [htk, hxl]
        show ((spl cur.toList (o + n * i.size) news).drop o).take ((n + m) * i.size) = xs ++ news
        rw [spl, List.append_assoc, List.drop_append_of_le_length (by rw [l1]; omega), List.drop_take, show o + n * i.size - o = n * i.size by omega, htk, ← List.append_assoc, ← hLL]
        exact List.take_left
      · rw [List.all_toArray, List.all_eq_true]
        have hcur : ∀ u ∈ cur.toList, p u = true := fun u hu => by
          rw [Array.all_eq_true_iff_forall_mem] at hpp
          exact hpp u (by simpa using hu)
        intro u hu
        simp only [spl, List.mem_append] at hu
        rcases hu with (h | h) | h
        · exact hcur u (List.mem_of_mem_take h)
        · exact hp u h
        · exact hcur u (List.mem_of_mem_drop h)
    · refine grow (some ⟨g, o, none⟩) c0 rfl (by omega) ?_
      refine run_firstCells_some w.drew i.size n ⟨g, o, none⟩ n c0 xs hxl (fun j u hu => ?_)
      rw [Addr.add_lit]
      exact (hown.range rfl j hu)
/-- at the operation -/
theorem wp_appendG {P : Program} {t T : TypeId} {i : TypeInfo} {z : Value} {s by' : Nat} {p : Value → Bool} (ht : P.underlying t = some (.slice T)) (hi : P.info? T = some i) (hz : i.zero = some z) (hs : i.size = s) (hby : i.bytes = by') (hzs : z.cells.size = s) (hs0 : 0 < s) (hzp : z.cells.all p = true)
    {w : World} {o : Oper} {a : Act} {K : Act → World → Prop} {Q : Exit → Act → World → Prop} (sl x : Operand) (ho : o.op = .call { callee := .builtin .append, args := #[sl, x], argTypes := #[t, t] })
    {base n N : Nat} {v : Value} {xs : List Value} (hsv : a.eval sl = v) (hown : OwnG T s p w base v n xs) {A : Option Addr} {m c : Nat} {news : List Value} (hx : a.eval x = .slice A m c) (hl : news.length = m * s) (hsrc : SrcAt w A news) (h1 : ∀ u ∈ news, u.oneCell' = true) (hp : ∀ u ∈ news, p u = true) (hN : n + m = N)
    (h63 : N ≤ maxLen) (hbytes : N * by' ≤ 140737488355328) (hbase : base ≤ w.heap.size)
    (hK : ∀ A' c' w', OwnG T s p w' base (.slice A' N c') N (xs ++ news) → w.grownBy w' v.ownBlock → ((Value.slice A' N c').ownBlock = v.ownBlock ∨ (Value.slice A' N c').ownBlock = some w.heap.size) → K (a.put o.dst (.slice A' N c')) w') : o.wp P a w K Q := by
  subst hN
  obtain ⟨A', c', w', hrun, h2, h3, h4⟩ := run_appendG (P := P) ht hi hz hs hby hzs hs0 hzp o.type hown hl hsrc h1 hp h63 hbytes hbase (c := c)
  unfold Oper.wp execOp
  simp only [ho, resolve, invoke, builtin, Sem.run_bind, Sem.run_pure, Result.andThen_ok, List.map_toArray, List.map_cons, List.map_nil, hsv, hx, hrun]
  exact hK A' c' w' h2 h3 h4
theorem wpList_appendG {P : Program} {t T : TypeId} {i : TypeInfo} {z : Value} {s by' : Nat} {p : Value → Bool} (ht : P.underlying t = some (.slice T)) (hi : P.info? T = some i) (hz : i.zero = some z) (hs : i.size = s) (hby : i.bytes = by') (hzs : z.cells.size = s) (hs0 : 0 < s) (hzp : z.cells.all p = true)
    {w : World} {o : Oper} {a : Act} {ops : Array Oper} {rest : List Oper} {Q : Exit → Act → World → Prop} (hgd : o.guard = none) (sl x : Operand) (ho : o.op = .call { callee := .builtin .append, args := #[sl, x], argTypes := #[t, t] })
    {base n N : Nat} {v : Value} {xs : List Value} (hsv : a.eval sl = v) (hown : OwnG T s p w base v n xs) {A : Option Addr} {m c : Nat} {news : List Value} (hx : a.eval x = .slice A m c) (hl : news.length = m * s) (hsrc : SrcAt w A news) (h1 : ∀ u ∈ news, u.oneCell' = true) (hp : ∀ u ∈ news, p u = true) (hN : n + m = N)
    (h63 : N ≤ maxLen) (hbytes : N * by' ≤ 140737488355328) (hbase : base ≤ w.heap.size)
    (hK : ∀ A' c' w', OwnG T s p w' base (.slice A' N c') N (xs ++ news) → w.grownBy w' v.ownBlock → ((Value.slice A' N c').ownBlock = v.ownBlock ∨ (Value.slice A' N c').ownBlock = some w.heap.size) → wpList P ops Q rest (a.put o.dst (.slice A' N c')) w') : wpList P ops Q (o :: rest) a w :=
  wpList_plain hgd fun _ hK' => wp_appendG ht hi hz hs hby hzs hs0 hzp sl x ho hsv hown hx hl hsrc h1 hp hN h63 hbytes hbase fun A' c' w' h2 h3 h4 => hK' _ _ (hK A' c' w' h2 h3 h4)
/-- what an append leaves below its base -/
theorem OwnG.below {T : TypeId} {s : Nat} {p : Value → Bool} {w w' : World} {base n : Nat} {v : Value} {xs : List Value} (h : OwnG T s p w base v n xs) (hg : w.grownBy w' v.ownBlock) (hb : base ≤ w.heap.size) : Below base w w' :=
  ⟨hg.os, hg.tape, hg.output, hg.size, fun k hk => hg.block k (by omega) (fun e => by have := (h.lt e.symm).1; omega)⟩
theorem RowIs.grown {w w' : World} {r : Nat} {cs : Array Value} {row : Option Nat} (h : RowIs w r cs) (hg : w.grownBy w' row) (hr : row ≠ some r) : RowIs w' r cs := by
  have e := hg.block r h.lt (fun e => hr e.symm)
  exact ⟨by unfold IsRow; rw [e]; exact h.row, by unfold rowOf; rw [e]; exact h.has⟩
theorem Bs.grown {w w' : World} {v : Value} {l : List UInt8} {row : Option Nat} (h : Bs w v l) (hg : w.grownBy w' row) (hn : ∀ k, row = some k → No8 w k) : Bs w' v l := by
  cases row with
  | none => exact h.step ⟨hg.os, hg.tape, hg.output, hg.size, fun k hk => hg.block k hk (by simp)⟩
  | some g => exact h.upd (g := g) ⟨hg.os, hg.tape, hg.output, hg.size, fun k hk hne => hg.block k hk (by simpa using hne)⟩ (hn g rfl)
end Go.Proofs.YtopmdbmnlflpgaaDoor
