/- A slice of the call's own, of elements of any kind, that grows behind and may have let go what was ahead; elements appended. No program. | Layer 14: the document's trail: its parts. | As XTrW's walk in an order of one's own with one floating operation, where the last operation comes behind all others: S is not asked behind it. | Layer 14: the document's past: what it holds; Add, Find, First. | Layer 14: the document's past: Add where it adds; Find; First. Printed by gen_pst2.py. | Layer 14: the document's past: Find, First, Forget. The program's: Len, First of none, Trails, and Forget with where its list lies. | Layer 14: Trails; the document's Forget; the program's with where its list lies. | Layer 14: the program's Forget, with where its list lies; two pasts side by side. | Layer 14: what is done to both pasts alike; the row of a thing to do. | An argument that is a list of things to do to a past. -/
import Derived.Test.YtopmdbmnlflpgaaDoorUpd
import Derived.Test.YtopmdbmnlflpgaaDoorPart
import Derived.Deep.Upon
import Derived.Test.YtopmdbmnlflpgaaDoorPastW
import Derived.Test.YtopmdbmnlflpgaaDoorMacR
import Derived.Test.YtopmdbmnlflpgaaDoorLexS
import Derived.Test.YtopmdbmnlflpgaaDoorLexT
import Derived.Test.YtopmdbmnlflpgaaDoorTrW
import Derived.Deep.LoopGhost
import Derived.Lib.SliceRun
import Derived.Test.YtopmdbmnlflpgaaDoorLists
import Derived.Test.YtopmdbmnlflpgaaDoorOpen
namespace Go.Proofs.YtopmdbmnlflpgaaDoor
section
open Go.RowKit
/-- an own slice of elements of s cells each, at an offset; all its block's cells meet p -/
def OwnG (T : TypeId) (s : Nat) (p : Value → Bool) (w : World) (base : Nat) (v : Value) (n : Nat) (xs : List Value) : Prop :=
  xs.length = n * s ∧ ((v = .slice none 0 0 ∧ n = 0) ∨ ∃ g o c cur, v = .slice (some ⟨g, o, none⟩) n c ∧ base ≤ g ∧ w.heap[g]? = some (.cells cur T (0, 0)) ∧ n ≤ c ∧ c ≤ maxLen ∧ o + c * s ≤ cur.size ∧ (cur.toList.drop o).take (n * s) = xs ∧ cur.all p = true)
section
variable {T : TypeId} {s : Nat} {p : Value → Bool} {w w' : World} {base n : Nat} {v : Value} {xs : List Value}
theorem OwnG.nil (T : TypeId) (s : Nat) (p : Value → Bool) (w : World) (base : Nat) : OwnG T s p w base (.slice none 0 0) 0 [] := ⟨by simp, .inl ⟨rfl, rfl⟩⟩
theorem OwnG.slice (h : OwnG T s p w base v n xs) : ∃ A c, v = .slice A n c ∧ n ≤ c := by
  rcases h.2 with ⟨h1, h2⟩ | ⟨g, o, c, cur, hv, _, _, hn, _⟩
  · exact ⟨none, 0, by rw [h1, h2], by omega⟩
  · exact ⟨_, _, hv, hn⟩
theorem OwnG.keep (h : OwnG T s p w base v n xs) (hb : ∀ k, v.ownBlock = some k → base ≤ k → k < w.heap.size → w'.heap[k]? = w.heap[k]?) : OwnG T s p w' base v n xs := by
  refine ⟨h.1, ?_⟩
  rcases h.2 with h | ⟨g, o, c, cur, hv, hg, hh, r⟩
  · exact .inl h
  · refine .inr ⟨g, o, c, cur, hv, hg, ?_, r⟩
    have hlt := (Array.getElem?_eq_some_iff.1 hh).1
    rw [hb g (by rw [hv]; rfl) hg hlt]; exact hh
theorem OwnG.step (h : OwnG T s p w base v n xs) (hb : Below w.heap.size w w') : OwnG T s p w' base v n xs := h.keep fun k _ _ hk => hb.block k hk
theorem OwnG.lt (h : OwnG T s p w base v n xs) {k : Nat} (hk : v.ownBlock = some k) : base ≤ k ∧ k < w.heap.size := by
  rcases h.2 with ⟨h1, _⟩ | ⟨g, o, c, cur, hv, hg, hh, _⟩
  · rw [h1] at hk; cases hk
  · rw [hv] at hk
    obtain rfl : g = k := Option.some.inj hk
    exact ⟨hg, (Array.getElem?_eq_some_iff.1 hh).1⟩
theorem OwnG.mono (h : OwnG T s p w base v n xs) {b : Nat} (hb : b ≤ base) : OwnG T s p w b v n xs := by
  refine ⟨h.1, ?_⟩
  rcases h.2 with h | ⟨g, o, c, cur, hv, hg, r⟩
  · exact .inl h
  · exact .inr ⟨g, o, c, cur, hv, by omega, r⟩
/-- a new row -/
theorem OwnG.new (T : TypeId) (s : Nat) (p : Value → Bool) (w : World) (base : Nat) (cs : List Value) (n : Nat) (hl : cs.length = n * s) (hp : ∀ u ∈ cs, p u = true) (hb : base ≤ w.heap.size) (hm : n ≤ maxLen) {g : Nat} (hg : g = w.heap.size) :
    OwnG T s p (w.alloc (.cells cs.toArray T)) base (.slice (some ⟨g, 0, none⟩) n n) n cs := by
  subst hg
  refine ⟨hl, .inr ⟨w.heap.size, 0, n, _, rfl, hb, heap_alloc_new w _, Nat.le_refl _, hm, by simp [hl], ?_, ?_⟩⟩
  · rw [List.drop_zero, ← hl, List.take_length]
  · rw [List.all_toArray, List.all_eq_true]; exact hp
theorem OwnG.len (h : OwnG T s p w base v n xs) : xs.length = n * s := h.1
/-- where its cells are -/
theorem OwnG.at (h : OwnG T s p w base v n xs) {g o m c : Nat} (hv : v = .slice (some ⟨g, o, none⟩) m c) : m = n ∧ g < w.heap.size ∧ w.rangeAt g o xs ∧ RowIs w g (rowOf w g) := by
  rcases h.2 with ⟨h1, _⟩ | ⟨g', o', c', cur, hv', hg, hh, hn, hm, hcs, htk, _⟩
  · rw [h1] at hv; cases hv
  · rw [hv'] at hv
    injection hv with e1 e2 e3
    injection e1 with e1
    injection e1 with e4 e5 e6
    subst e4; subst e5; subst e2
    refine ⟨rfl, (Array.getElem?_eq_some_iff.1 hh).1, fun j u hu => ?_, ⟨⟨_, _, hh⟩, rfl⟩⟩
    have hj := (List.getElem?_eq_some_iff.1 hu).1
    rw [h.1] at hj
    rw [← htk, List.getElem?_take, if_pos hj, List.getElem?_drop] at hu
    rw [cell_of_row w g' _ cur _ (0, 0) hh, ← Array.getElem?_toList]
    exact hu
theorem OwnG.addr (h : OwnG T s p w base v n xs) (h0 : 0 < n) : ∃ g o c, v = .slice (some ⟨g, o, none⟩) n c ∧ base ≤ g ∧ g < w.heap.size := by
  rcases h.2 with ⟨_, h1⟩ | ⟨g, o, c, cur, hv, hg, hh, _⟩
  · omega
  · exact ⟨g, o, c, hv, hg, (Array.getElem?_eq_some_iff.1 hh).1⟩
/-- its block's cells -/
theorem OwnG.all (h : OwnG T s p w base v n xs) {k i : Nat} {u : Value} (hk : v.ownBlock = some k) (hu : w.cell? ⟨k, i, none⟩ = some u) : p u = true := by
  rcases h.2 with ⟨h1, _⟩ | ⟨g, o, c, cur, hv, hg, hh, hn, hm, hcs, htk, hp⟩
  · rw [h1] at hk; cases hk
  · rw [hv] at hk
    obtain rfl : g = k := Option.some.inj hk
    rw [cell_of_row w g _ cur _ (0, 0) hh] at hu
    obtain ⟨hi, e⟩ := Array.getElem?_eq_some_iff.1 hu
    rw [← e]
    exact Array.all_eq_true.1 hp i hi
theorem OwnG.block (h : OwnG T s p w base v n xs) {k : Nat} (hk : v.ownBlock = some k) : ∃ cur, w.heap[k]? = some (.cells cur T (0, 0)) ∧ cur.all p = true := by
  rcases h.2 with ⟨h1, _⟩ | ⟨g, o, c, cur, hv, hg, hh, hn, hm, hcs, htk, hp⟩
  · rw [h1] at hk; cases hk
  · rw [hv] at hk
    obtain rfl : g = k := Option.some.inj hk
    exact ⟨cur, hh, hp⟩
theorem OwnG.ne_row (h : OwnG T s p w base v n xs) {q : Nat} {cs : Array Value} (hr : RowIs w q cs) (hn : cs.all p = false) : v.ownBlock ≠ some q := fun e => by
  obtain ⟨cur, hh, hp⟩ := h.block e
  have : cs = cur := by rw [← hr.has]; exact rowOf_eq hh
  rw [this, hp] at hn; cases hn
theorem OwnG.no8 (h : OwnG T s p w base v n xs) (hp : ∀ i, p (.int .u8 i) = false) {k : Nat} (hk : v.ownBlock = some k) : No8 w k := fun i b hc => by
  have := h.all hk hc
  rw [hp] at this; cases this
/-- the first ones let go -/
theorem OwnG.drop1 (h : OwnG T s p w base v n xs) {g o m c : Nat} (hv : v = .slice (some ⟨g, o, none⟩) m c) (h0 : 0 < n) : n ≤ c ∧ OwnG T s p w base (.slice (some ⟨g, o + s, none⟩) (n - 1) (c - 1)) (n - 1) (xs.drop s) := by
  have hl := h.1
  rcases h.2 with ⟨h1, _⟩ | ⟨g', o', c', cur, hv', hg, hh, hn, hm, hcs, htk, hp⟩
  · rw [h1] at hv; cases hv
  · rw [hv'] at hv
    injection hv with e1 e2 e3
    injection e1 with e1
    injection e1 with e4 e5 e6
    subst e4; subst e5; subst e3
    have e7 : c' * s = (c' - 1) * s + s := by rw [← Nat.succ_mul]; congr 1; omega
    have e8 : n * s = (n - 1) * s + s := by rw [← Nat.succ_mul]; congr 1; omega
    refine ⟨hn, by rw [List.length_drop, hl, e8]; omega, .inr ⟨g', o' + s, c' - 1, cur, rfl, hg, hh, by omega, by omega, by rw [e7] at hcs; omega, ?_, hp⟩⟩
    rw [← htk, List.drop_take, List.drop_drop, e8, Nat.add_sub_cancel]
/-- nothing of it, at its own place -/
theorem OwnG.void (h : OwnG T s p w base v n xs) {g o m c : Nat} (hv : v = .slice (some ⟨g, o, none⟩) m c) : OwnG T s p w base (.slice (some ⟨g, o, none⟩) 0 0) 0 [] := by
  rcases h.2 with ⟨h1, _⟩ | ⟨g', o', c', cur, hv', hg, hh, hn, hm, hcs, htk, hp⟩
  · rw [h1] at hv; cases hv
  · rw [hv'] at hv
    injection hv with e1 e2 e3
    injection e1 with e1
    injection e1 with e4 e5 e6
    subst e4; subst e5
    exact ⟨by simp, .inr ⟨g', o', 0, cur, rfl, hg, hh, Nat.le_refl _, by simp [maxLen], by omega, by simp, hp⟩⟩
/-- a beginning of it, as far as it is read -/
theorem OwnG.range (h : OwnG T s p w base v n xs) {g o m c : Nat} (hv : v = .slice (some ⟨g, o, none⟩) m c) (i : Nat) {u : Value} (hu : xs[i]? = some u) : w.cell? ⟨g, o + i, none⟩ = some u := (h.at hv).2.2.1 i u hu
end
/-- what stands behind an address is these cells -/
def SrcAt (w : World) (A : Option Addr) (news : List Value) : Prop := 0 < news.length → ∃ g o, A = some ⟨g, o, none⟩ ∧ ∀ j u, news[j]? = some u → w.cell? ⟨g, o + j, none⟩ = some u
theorem SrcAt.src {P : Program} {w : World} {t e : TypeId} {A : Option Addr} {s m c : Nat} {news : List Value} (ht : P.underlying t = some (.slice e)) (hs : 0 < s) (hl : news.length = m * s) (h : SrcAt w A news) (h1 : ∀ u ∈ news, u.oneCell' = true) : Src P s t (.slice A m c) m news w := by
  by_cases h0 : 0 < news.length
  · obtain ⟨g, o, rfl, hc⟩ := h h0
    exact Src.ofSlice w ht ⟨g, o, none⟩ m c news hl (fun j u hu => by rw [Addr.add_lit]; exact hc j u hu) h1
  · obtain rfl : news = [] := List.eq_nil_of_length_eq_zero (by omega)
    have hm : m = 0 := by
      have : m * s = 0 := by simpa using hl.symm
      rcases Nat.mul_eq_zero.1 this with h | h
      · exact h
      · omega
    subst hm
    cases A with
    | none => exact Src.ofNil w ht c
    | some a => exact Src.ofSlice w ht a 0 c [] (by simp) (fun j u hu => by simp at hu) (fun u hu => by cases hu)
theorem frozen_rowG {w : World} {g i : Nat} {cur : Array Value} {T : TypeId} (h : w.heap[g]? = some (.cells cur T (0, 0))) : w.frozen? ⟨g, i, none⟩ = false := by
  unfold World.frozen?
  rw [h]; simp
/-- ELEMENTS APPENDED -/
theorem run_appendG {P : Program} {t T : TypeId} {i : TypeInfo} {z : Value} {s by' : Nat} {p : Value → Bool} (ht : P.underlying t = some (.slice T)) (hi : P.info? T = some i) (hz : i.zero = some z) (hs : i.size = s) (hby : i.bytes = by') (hzs : z.cells.size = s) (hs0 : 0 < s) (hzp : z.cells.all p = true) (ty : TypeId)
    {w : World} {base n : Nat} {v : Value} {xs : List Value} (hown : OwnG T s p w base v n xs) {A : Option Addr} {m c : Nat} {news : List Value} (hl : news.length = m * s) (hsrc : SrcAt w A news) (h1 : ∀ u ∈ news, u.oneCell' = true) (hp : ∀ u ∈ news, p u = true)
    (h63 : n + m ≤ maxLen) (hbytes : (n + m) * by' ≤ 140737488355328) (hbase : base ≤ w.heap.size) :
    ∃ A' c' w', (Builtin.append_ #[t, t] ty #[v, .slice A m c]).run P w = .ok (.slice A' (n + m) c') w' ∧ OwnG T s p w' base (.slice A' (n + m) c') (n + m) (xs ++ news) ∧ w.grownBy w' v.ownBlock ∧ ((Value.slice A' (n + m) c').ownBlock = v.ownBlock ∨ (Value.slice A' (n + m) c').ownBlock = some w.heap.size) := by
  subst hs; subst hby
  have hS := hsrc.src (P := P) (m := m) (c := c) ht hs0 hl h1
  have hxl := hown.1
  have hLL : (xs ++ news).length = (n + m) * i.size := by rw [List.length_append, hxl, hl, Nat.add_mul]
  have hsm : n + m ≤ 9223372036854775807 := by simp only [maxLen] at h63; omega
  have grow : ∀ (bs : Option Addr) (sc : Nat), v = .slice bs n sc → sc < n + m → (Builtin.firstCells i.size n (.slice bs n sc)).run P w.drew = .ok xs.toArray w.drew →
      ∃ A' c' w', (Builtin.append_ #[t, t] ty #[v, .slice A m c]).run P w = .ok (.slice A' (n + m) c') w' ∧ OwnG T i.size p w' base (.slice A' (n + m) c') (n + m) (xs ++ news) ∧ w.grownBy w' v.ownBlock ∧ ((Value.slice A' (n + m) c').ownBlock = v.ownBlock ∨ (Value.slice A' (n + m) c').ownBlock = some w.heap.size) := by
    rintro bs sc rfl hg hold
    have hrun := run_append_grow_src (P := P) w t t ty T i z ht hi hz bs n sc xs hold (.slice A m c) m news hS hg (by omega) (growslice_fits hg hbytes)
    have hge := grownCap_ge w (n + m) sc T
    have hcm := grownCap_le_maxLen w (n + m) sc T h63
    refine ⟨_, _, _, hrun, ⟨hLL, .inr ⟨w.heap.size, 0, _, _, rfl, hbase, heap_alloc_new w.drew _, hge, hcm, ?_, ?_, ?_⟩⟩, ⟨rfl, rfl, rfl, by simp, fun k hk _ => Below.heap_alloc w.drew _ k hk⟩, .inr rfl⟩
    · rw [Array.size_append, List.size_toArray, hLL, size_zeroCells, hzs, ← Nat.add_mul, Nat.zero_add]
      apply Nat.mul_le_mul_right; omega
    · simp only [List.drop_zero, Array.toList_append]
      rw [← hLL]; exact List.take_left
    · rw [Array.all_append, Bool.and_eq_true]
      constructor
      · rw [List.all_toArray, List.all_eq_true]
        intro u hu
        rcases List.mem_append.1 hu with h | h
        · have hne : 0 < n := by
            rcases Nat.eq_zero_or_pos n with h0 | h0
            · rw [h0] at hxl; simp at hxl; rw [hxl] at h; cases h
            · exact h0
          obtain ⟨j, hj⟩ := List.getElem?_of_mem h
          obtain ⟨g, o, c0, e, _, _⟩ := hown.addr hne
          exact hown.all (k := g) (by rw [e]; rfl) (hown.range e j hj)
        · exact hp u h
      · have hz0 : 0 < z.cells.size := by rw [hzs]; exact hs0
        unfold Builtin.zeroCells
        rw [Array.all_eq_true]
        intro j hj
        have hjm : j % z.cells.size < z.cells.size := Nat.mod_lt _ hz0
        simp only [Array.getElem_map, Array.getElem_range]
        rw [getElem!_pos z.cells _ hjm]
        exact Array.all_eq_true.1 hzp _ hjm
  by_cases hm0 : m = 0
  · subst hm0
    obtain rfl : news = [] := List.eq_nil_of_length_eq_zero (by simpa using hl)
    obtain ⟨A', c', rfl, hc'⟩ := hown.slice
    refine ⟨A', c', w, run_append_nothing w t t ty T i ht hi A' n c' hc' _ hS, by simpa using hown, ⟨rfl, rfl, rfl, Nat.le_refl _, fun _ _ _ => rfl⟩, .inl rfl⟩
  rcases hown.2 with ⟨rfl, rfl⟩ | ⟨g, o, c0, cur, rfl, hg, hh, hnc, hcm, hcs, htk, hpp⟩
  · obtain rfl : xs = [] := List.eq_nil_of_length_eq_zero (by simpa using hxl)
    exact grow none 0 rfl (by omega) (run_firstCells_none w.drew i.size 0 0 0)
  · by_cases hroom : n + m ≤ c0
    · have hrc : (n + m) * i.size ≤ c0 * i.size := Nat.mul_le_mul_right _ hroom
      rw [Nat.add_mul] at hrc
      have hcl : cur.toList.length = cur.size := Array.length_toList
      have hrow : RowIs w g cur.toList.toArray := by
        rw [Array.toArray_toList]
        exact ⟨⟨_, _, hh⟩, rowOf_eq hh⟩
      have hrun := run_append_room_src (P := P) w t t ty T i ht hi g o n c0 (.slice A m c) m news hS hroom
        (fun j hj => by
          rw [cell_of_row w g _ cur _ (0, 0) hh, Array.getElem?_eq_getElem (by rw [hl] at hj; omega)]; rfl) (fun j _ => frozen_rowG hh)
      rw [setCells_row news (o + n * i.size) w cur.toList hrow (by rw [hcl, hl]; omega)] at hrun
      refine ⟨_, _, _, hrun, ⟨hLL, .inr ⟨g, o, c0, _, rfl, hg, setRow_heap w g cur _ _ _ hh, hroom, hcm, ?_, ?_, ?_⟩⟩, ⟨rfl, rfl, rfl, by simp, fun k _ hk => setRow_other w g k _ (fun e => hk (by simp [Value.ownBlock, e]))⟩, .inl rfl⟩
      · rw [List.size_toArray, spl_length _ _ _ (by rw [hl, hcl]; omega), hcl]; exact hcs
      · have l1 : (cur.toList.take (o + n * i.size)).length = o + n * i.size := by rw [List.length_take, hcl]; omega
        have l2 : ((cur.toList.drop o).take (n * i.size)).length = n * i.size := by rw [htk, hxl]
        show ((spl cur.toList (o + n * i.size) news).drop o).take ((n + m) * i.size) = xs ++ news
        rw [spl, List.append_assoc, List.drop_append_of_le_length (by rw [l1]; omega), List.drop_take, show o + n * i.size - o = n * i.size by omega, htk, ← List.append_assoc, ← hLL]
        exact List.take_left
      · rw [List.all_toArray, List.all_eq_true]
        have hcur : ∀ u ∈ cur.toList, p u = true := fun u hu => by
          rw [Array.all_eq_true_iff_forall_mem] at hpp
          exact hpp u (by simpa using hu)
        intro u hu
        simp only [spl, List.mem_append] at hu
        rcases hu with (h | h) | h
        · exact hcur u (List.mem_of_mem_take h)
        · exact hp u h
        · exact hcur u (List.mem_of_mem_drop h)
    · refine grow (some ⟨g, o, none⟩) c0 rfl (by omega) ?_
      refine run_firstCells_some w.drew i.size n ⟨g, o, none⟩ n c0 xs hxl (fun j u hu => ?_)
      rw [Addr.add_lit]
      exact (hown.range rfl j hu)
/-- at the operation -/
theorem wp_appendG {P : Program} {t T : TypeId} {i : TypeInfo} {z : Value} {s by' : Nat} {p : Value → Bool} (ht : P.underlying t = some (.slice T)) (hi : P.info? T = some i) (hz : i.zero = some z) (hs : i.size = s) (hby : i.bytes = by') (hzs : z.cells.size = s) (hs0 : 0 < s) (hzp : z.cells.all p = true)
    {w : World} {o : Oper} {a : Act} {K : Act → World → Prop} {Q : Exit → Act → World → Prop} (sl x : Operand) (ho : o.op = .call { callee := .builtin .append, args := #[sl, x], argTypes := #[t, t] })
    {base n N : Nat} {v : Value} {xs : List Value} (hsv : a.eval sl = v) (hown : OwnG T s p w base v n xs) {A : Option Addr} {m c : Nat} {news : List Value} (hx : a.eval x = .slice A m c) (hl : news.length = m * s) (hsrc : SrcAt w A news) (h1 : ∀ u ∈ news, u.oneCell' = true) (hp : ∀ u ∈ news, p u = true) (hN : n + m = N)
    (h63 : N ≤ maxLen) (hbytes : N * by' ≤ 140737488355328) (hbase : base ≤ w.heap.size)
    (hK : ∀ A' c' w', OwnG T s p w' base (.slice A' N c') N (xs ++ news) → w.grownBy w' v.ownBlock → ((Value.slice A' N c').ownBlock = v.ownBlock ∨ (Value.slice A' N c').ownBlock = some w.heap.size) → K (a.put o.dst (.slice A' N c')) w') : o.wp P a w K Q := by
  subst hN
  obtain ⟨A', c', w', hrun, h2, h3, h4⟩ := run_appendG (P := P) ht hi hz hs hby hzs hs0 hzp o.type hown hl hsrc h1 hp h63 hbytes hbase (c := c)
  unfold Oper.wp execOp
  simp only [ho, resolve, invoke, builtin, Sem.run_bind, Sem.run_pure, Result.andThen_ok, List.map_toArray, List.map_cons, List.map_nil, hsv, hx, hrun]
  exact hK A' c' w' h2 h3 h4
theorem wpList_appendG {P : Program} {t T : TypeId} {i : TypeInfo} {z : Value} {s by' : Nat} {p : Value → Bool} (ht : P.underlying t = some (.slice T)) (hi : P.info? T = some i) (hz : i.zero = some z) (hs : i.size = s) (hby : i.bytes = by') (hzs : z.cells.size = s) (hs0 : 0 < s) (hzp : z.cells.all p = true)
    {w : World} {o : Oper} {a : Act} {ops : Array Oper} {rest : List Oper} {Q : Exit → Act → World → Prop} (hgd : o.guard = none) (sl x : Operand) (ho : o.op = .call { callee := .builtin .append, args := #[sl, x], argTypes := #[t, t] })
    {base n N : Nat} {v : Value} {xs : List Value} (hsv : a.eval sl = v) (hown : OwnG T s p w base v n xs) {A : Option Addr} {m c : Nat} {news : List Value} (hx : a.eval x = .slice A m c) (hl : news.length = m * s) (hsrc : SrcAt w A news) (h1 : ∀ u ∈ news, u.oneCell' = true) (hp : ∀ u ∈ news, p u = true) (hN : n + m = N)
    (h63 : N ≤ maxLen) (hbytes : N * by' ≤ 140737488355328) (hbase : base ≤ w.heap.size)
    (hK : ∀ A' c' w', OwnG T s p w' base (.slice A' N c') N (xs ++ news) → w.grownBy w' v.ownBlock → ((Value.slice A' N c').ownBlock = v.ownBlock ∨ (Value.slice A' N c').ownBlock = some w.heap.size) → wpList P ops Q rest (a.put o.dst (.slice A' N c')) w') : wpList P ops Q (o :: rest) a w :=
  wpList_plain hgd fun _ hK' => wp_appendG ht hi hz hs hby hzs hs0 hzp sl x ho hsv hown hx hl hsrc h1 hp hN h63 hbytes hbase fun A' c' w' h2 h3 h4 => hK' _ _ (hK A' c' w' h2 h3 h4)
/-- what an append leaves below its base -/
theorem OwnG.below {T : TypeId} {s : Nat} {p : Value → Bool} {w w' : World} {base n : Nat} {v : Value} {xs : List Value} (h : OwnG T s p w base v n xs) (hg : w.grownBy w' v.ownBlock) (hb : base ≤ w.heap.size) : Below base w w' :=
  ⟨hg.os, hg.tape, hg.output, hg.size, fun k hk => hg.block k (by omega) (fun e => by have := (h.lt e.symm).1; omega)⟩
theorem RowIs.grown {w w' : World} {r : Nat} {cs : Array Value} {row : Option Nat} (h : RowIs w r cs) (hg : w.grownBy w' row) (hr : row ≠ some r) : RowIs w' r cs := by
  have e := hg.block r h.lt (fun e => hr e.symm)
  exact ⟨by unfold IsRow; rw [e]; exact h.row, by unfold rowOf; rw [e]; exact h.has⟩
theorem Bs.grown {w w' : World} {v : Value} {l : List UInt8} {row : Option Nat} (h : Bs w v l) (hg : w.grownBy w' row) (hn : ∀ k, row = some k → No8 w k) : Bs w' v l := by
  cases row with
  | none => exact h.step ⟨hg.os, hg.tape, hg.output, hg.size, fun k hk => hg.block k hk (by simp)⟩
  | some g => exact h.upd (g := g) ⟨hg.os, hg.tape, hg.output, hg.size, fun k hk hne => hg.block k hk (by simpa using hne)⟩ (hn g rfl)
end
section
open Go.RowKit
theorem rtrBuilt (parts : List (Nat × Value)) : Tryd.prog.built 66 parts = Instr.fill (#[(0, 32), (32, 1)][·]?) (u8v (zeros 32) ++ [Value.int .u32 0]).toArray parts := by
  rw [u8v_def, zeros_def]
  kernel_rfl
theorem rtrBuild (key : List UInt8) (hkey : key.length = 32) (w : World) : (buildK 66 #[(0, .agg (u8s key))]).run Tryd.prog w = .ok (.value (.agg (trC key 0))) w := run_buildK (by rw [rtrBuilt]; exact fillTr key hkey) w
theorem rtrBuild2 (key : List UInt8) (hkey : key.length = 32) (n : UInt32) (w : World) : (buildK 66 #[(0, .agg (u8s key)), (1, .int .u32 (n32 n))]).run Tryd.prog w = .ok (.value (.agg (trC key n))) w := run_buildK (by rw [rtrBuilt]; exact fillTr2 key hkey n) w
theorem xrtrBuild (ev : Operand → Value) (d : Option Tmp) (ps : Array (Nat × Operand)) (ty : TypeId) (p : String) (af : Array Edge) (g : Option (Nat × Bool)) :
    execOp ev ⟨d, .build 66 ps, ty, p, af, g⟩ = buildK 66 (ps.map fun x => (x.1, ev x.2)) := exec_buildK ev d _ ps ty p af g
theorem xrtrLoad (ev : Operand → Value) (d : Option Tmp) (x : Operand) (ty : TypeId) (p : String) (af : Array Edge) (g : Option (Nat × Bool)) :
    execOp ev ⟨d, .load 66 x, ty, p, af, g⟩ = loadAgg 66 (ev x) := exec_loadAgg ev d _ x ty p af g
theorem xrtrStore (ev : Operand → Value) (d : Option Tmp) (x y : Operand) (ty : TypeId) (p : String) (af : Array Edge) (g : Option (Nat × Bool)) :
    execOp ev ⟨d, .store 66 x y, ty, p, af, g⟩ = storeAgg 66 (ev x) (ev y) := exec_storeAgg ev d _ x y ty p af g
theorem rtrStore (w : World) (g : Nat) (cs : Array Value) (hr : (rowOf w g).size = 33) (hc : cs.size = 33) (h1 : cs.all (·.oneCell') = true) :
    (storeAgg 66 (.pointer (some ⟨g, 0, none⟩)) (.agg cs)).run Tryd.prog w = .ok .skip (w.setRow g cs) :=
  run_storeAgg 33 66 (by omega) (by kernel_rfl) w g cs hr hc h1
theorem rtrload {w : World} {g : Nat} {h : List UInt8} {n : UInt32} (hr : RowIs w g (trC h n)) (hh : h.length = 32) : (loadAgg 66 (.pointer (some ⟨g, 0, none⟩))).run Tryd.prog w = .ok (.value (.agg (trC h n))) w := by
  have := run_loadAgg (P := Tryd.prog) 33 66 (by omega) (by kernel_rfl) (by kernel_rfl) w g (by rw [hr.has, trC_size h hh])
  rw [hr.has] at this; exact this
attribute [go_sem ↓] xrtrBuild xrtrLoad xrtrStore
attribute [go_sem] trZ rtrStore trC_size trC_one rtrBuild rtrBuild2
theorem lit5 : (#[.int .u8 115, .int .u8 116, .int .u8 97, .int .u8 114, .int .u8 116] : Array Value) = u8s [115, 116, 97, 114, 116] := by rw [u8s_def]; simp only [n8_def]; rfl
theorem lit4 : (#[.int .u8 110, .int .u8 101, .int .u8 120, .int .u8 116] : Array Value) = u8s [110, 101, 120, 116] := by rw [u8s_def]; simp only [n8_def]; rfl
end
section
section
variable {P : Program} {ops : Array Oper} {ex fz : List Nat} {S : World → Prop}
theorem late_pushT {n : Nat} {Q : Act → World → Prop} {k j : Nat} {ok oj : Oper} (hk : ops[k]? = some ok) (hoj : ops[j]? = some oj) (hji : j ≠ k) (hap : oj.apart ops ok = true) (hc0 : clsS ex fz j oj = 0) (hsel : ∀ (j : Nat) (o : Oper) cs b, ops[j]? = some o → o.op ≠ .select cs b)
    {f : Nat} {listed : Array Bool} {a : Act} {w : World} (hj : j ∈ Region.ready .any ops listed)
    (H : wpOp P ops NoOut k (fun a w => S w ∧ wpAnyT P ops ex fz S n Q (f + 1) (listed.setIfInBounds k true) a w) a w) :
    ∃ v w1, S w1 ∧ YieldsIf P ops S oj v a ∧ wpOp P ops NoOut k (fun a w => S w ∧ wpAnyT P ops ex fz S n Q f ((listed.setIfInBounds j true).setIfInBounds k true) a w) (a.put oj.dst v) w := by
  obtain ⟨h1, h2, h3⟩ := Oper.apart_spec hap
  have hsj := fun cs b => hsel j oj cs b hoj
  have same : ∀ (a' : Act) (v : Value), From ok a a' → (YieldsIf P ops S oj v a' ↔ YieldsIf P ops S oj v a) := by
    rintro a' v ⟨ds, u, rfl⟩
    have e1 : execOp ((({ a with defers := ds } : Act).put ok.dst u).eval) oj = execOp a.eval oj := execOp_put oj hsj { a with defers := ds } ok.dst u h3
    have e2 : Region.wanted oj (yielded ops (({ a with defers := ds } : Act).put ok.dst u).tmps) = Region.wanted oj (yielded ops a.tmps) := wanted_put oj { a with defers := ds } ok.dst u h3
    exact ⟨fun h => h.of_same e1.symm e2.symm, fun h => h.of_same e1 e2⟩
  have H' := wpOp_from hk H
  obtain ⟨a1, w1, hf1, hS1, hA⟩ := wpOp_some H'
  have hj1 := hA.2.2 j (ready_mono hj hji)
  unfold stepS at hj1
  simp only [hoj, hc0] at hj1
  obtain ⟨v, hy1, -⟩ := hj1
  have hy : YieldsIf P ops S oj v a := (same a1 v hf1).1 hy1
  refine ⟨v, w1, hS1, hy, wpOp_after hk hap (fun cs b => hsel k ok cs b hk) H' fun a' w' ⟨hf, hS', hA'⟩ => ⟨hS', ?_⟩⟩
  have hj2 := hA'.2.2 j (ready_mono hj hji)
  unfold stepS at hj2
  simp only [hoj, hc0] at hj2
  obtain ⟨v', hy', hK⟩ := hj2
  have : v = v' := yieldsIf_unique hS' hy ((same a' v' hf).1 hy')
  subst this
  rw [Array.setIfInBounds_comm _ _ hji]
  exact hK
theorem R_late2T {n : Nat} {Q : Act → World → Prop} {k g : Nat} {ok og : Oper} (hk : ops[k]? = some ok) (hg : ops[g]? = some og) (hcl : clsS ex fz k ok = 2) (hcg : clsS ex fz g og = 2) (hlast : Waits ops k n ∨ reachB ops k n = true) (hsel : ∀ (j : Nat) (o : Oper) cs b, ops[j]? = some o → o.op ≠ .select cs b) :
    ∀ (f : Nat) (listed : Array Bool) (a : Act) (w : World), Closed ops listed →
      (∀ j oj, ops[j]? = some oj → j ≠ k → j ≠ g → listed.getD j true = false → (Waits ops k j ∨ Waits ops g j) ∨ (reachB ops k j = true ∨ reachB ops g j = true) ∨ (oj.apart ops ok = true ∧ oj.apart ops og = true ∧ clsS ex fz j oj = 0)) →
      k ∈ Region.ready .any ops listed → g ∈ Region.ready .any ops listed →
      wpOp P ops NoOut k (fun a w => S w ∧ wpAnyT P ops ex fz S n Q f (listed.setIfInBounds k true) a w) a w →
      wpOp P ops NoOut g (fun a w => S w ∧ wpAnyT P ops ex fz S n Q f (listed.setIfInBounds g true) a w) a w → wpAnyT P ops ex fz S n Q (f + 1) listed a w := by
  intro f
  have at_k : ∀ {i : Nat} {oi : Oper} {K : Act → World → Prop} {a : Act} {w : World}, ops[i]? = some oi → clsS ex fz i oi = 2 → wpOp P ops NoOut i (fun a w => S w ∧ K a w) a w → stepS P ops ex fz S i K a w := fun hi hc H => by
    unfold stepS; simp only [hi, hc]; exact H
  induction f with
  | zero =>
    intro listed a w hc _ hr _ H G
    have hnr := last_later hlast hc hr
    refine ⟨hnr, fun h => (by rw [h] at hr; cases hr), fun j hj => ?_⟩
    by_cases hji : j = k
    · subst hji; exact at_k hk hcl H
    · obtain ⟨a', w', h⟩ := wpOp_some H
      have := ready_mono hj hji
      rw [h.2.1] at this
      exact absurd hj (by rw [List.mem_singleton.1 this]; exact hnr)
  | succ f ih =>
    intro listed a w hc hfree hr hrg H G
    have hnr := last_later hlast hc hr
    refine ⟨hnr, fun h => (by rw [h] at hr; cases hr), fun j hj => ?_⟩
    by_cases hji : j = k
    · subst hji; exact at_k hk hcl H
    by_cases hjg : j = g
    · subst hjg; exact at_k hg hcg G
    obtain ⟨hjun, oj, hoj, hall⟩ := mem_ready.1 hj
    have hkun := (mem_ready.1 hr).1
    have hgun := (mem_ready.1 hrg).1
    have hap : oj.apart ops ok = true ∧ oj.apart ops og = true ∧ clsS ex fz j oj = 0 := by
      rcases hfree j oj hoj hji hjg hjun with (h | h) | (h | h) | h
      · exact absurd hj (not_ready_of_waits hkun h)
      · exact absurd hj (not_ready_of_waits hgun h)
      · exact absurd hj (not_ready_of_reach hc (getD_of_ready hkun) h)
      · exact absurd hj (not_ready_of_reach hc (getD_of_ready hgun) h)
      · exact h
    obtain ⟨hap, hap2, hc0⟩ := hap
    obtain ⟨v, w1, hS1, hy, HK⟩ := late_pushT hk hoj hji hap hc0 hsel hj H
    obtain ⟨v2, _, _, hy2, HG⟩ := late_pushT hg hoj hjg hap2 hc0 hsel hj G
    have : v = v2 := yieldsIf_unique hS1 hy hy2
    subst this
    unfold stepS
    simp only [hoj, hc0]
    refine ⟨v, hy, ih (listed.setIfInBounds j true) (a.put oj.dst v) w (hc.set hj) ?_ (ready_mono hr (Ne.symm hji)) (ready_mono hrg (Ne.symm hjg)) HK HG⟩
    intro i oi hi hik hig hun
    refine hfree i oi hi hik hig ?_
    by_cases hji' : j = i
    · subst hji'; exact hjun
    · rw [getD_set_ne true hji'] at hun; exact hun
theorem last_of {n k : Nat} (h : okLast ops n k = true) : Waits ops k n ∨ reachB ops k n = true := by
  unfold okLast at h
  cases hon : ops[n]? with
  | none => rw [hon] at h; cases h
  | some on =>
    rw [hon] at h
    rcases Bool.or_eq_true _ _ |>.mp h with h | h
    · exact .inl (waits_of hon h)
    · exact .inr h
def okIT (ops : Array Oper) (ex fz : List Nat) (n : Nat) : List Nat → Array Bool → Bool
  | [], listed => Region.ready .any ops listed == [n]
  | k :: r, listed => (Region.ready .any ops listed).contains k && okLast ops n k && (List.range ops.size).all (fun j => listed.getD j true || decide (j = k) || okPairS ops ex fz k j) && okIT ops ex fz n r (listed.setIfInBounds k true)
def okIFT (ops : Array Oper) (ex fz : List Nat) (n g : Nat) : List Nat → Array Bool → Bool
  | [], _ => false
  | k :: r, listed => if k = g then okIT ops ex fz n (k :: r) listed else
    match ops[k]?, ops[g]? with
    | some ok, some og =>
      (Region.ready .any ops listed).contains k && okLast ops n k && okIFT ops ex fz n g r (listed.setIfInBounds k true) &&
      (match clsS ex fz k ok with
       | 0 => (List.range ops.size).all (fun j => listed.getD j true || decide (j = k) || okPairS ops ex fz k j)
       | 1 => false
       | _ => (Region.ready .any ops listed).contains g && okLast ops n g && (clsS ex fz g og == 2) && (List.range ops.size).all (fun j => listed.getD j true || decide (j = k) || decide (j = g) || okPair2 ops ex fz k g j) && decide (((k :: r).erase g).length = r.length) && okIT ops ex fz n ((k :: r).erase g) (listed.setIfInBounds g true))
    | _, _ => false
theorem R_IT {n : Nat} {Q : Act → World → Prop} (hs : Region.noSelect ops = true) : ∀ (l : List Nat) (listed : Array Bool) (a : Act) (w : World), Closed ops listed → okIT ops ex fz n l listed = true → wpI P ops ex fz S Q l a w → wpAnyT P ops ex fz S n Q l.length listed a w
  | [], _, _, _, _, hB, h => ⟨by simpa [okIT] using hB, h⟩
  | k :: l, listed, a, w, hc, hB, h => by
    simp only [okIT, Bool.and_eq_true, List.all_eq_true, List.mem_range, Bool.or_eq_true, decide_eq_true_eq] at hB
    obtain ⟨⟨⟨hr, hln⟩, hf⟩, hB'⟩ := hB
    have hlast := last_of hln
    have hr' : k ∈ Region.ready .any ops listed := by simpa using hr
    have hsel := Region.noSelect_spec hs
    simp only [wpI] at h
    split at h
    · exact h.elim
    · rename_i o h0
      have pair : ∀ j oj, ops[j]? = some oj → j ≠ k → listed.getD j true = false → okPairS ops ex fz k j = true := fun j oj hj hne hun =>
        pair_of h0 hj (by rcases hf j (Array.getElem?_eq_some_iff.1 hj).1 with (h | h) | h
                          · exact .inl h
                          · exact .inr (.inl h)
                          · exact .inr (.inr h)) hne hun
      have next := fun a w => R_IT (Q := Q) hs l (listed.setIfInBounds k true) a w (hc.set hr') hB'
      rcases clsS_cases ex fz k o with hcl | hcl | hcl <;> simp only [hcl] at h
      · obtain ⟨v, hy, hK⟩ := h
        refine R_first0T h0 hcl hlast hsel l.length listed a w hc (fun j oj hj hne hun => ?_) hr' hy (next _ _ hK)
        have := pair j oj hj hne hun
        simp only [okPairS, h0, hj, hcl, Bool.or_eq_true] at this
        rcases this with (h | h) | h
        · exact .inl (waits_of hj h)
        · exact .inr (.inl h)
        · exact .inr (.inr h)
      · obtain ⟨v, hy, hK⟩ := h
        refine R_first1T h0 hcl hlast hsel l.length listed a w hc (fun j oj hj hne hun => ?_) hr' hy (next _ _ hK)
        have := pair j oj hj hne hun
        simp only [okPairS, h0, hj, hcl, Bool.or_eq_true, Bool.and_eq_true, beq_iff_eq] at this
        rcases this with (h | h) | h
        · exact .inl (waits_of hj h)
        · exact .inr (.inl h)
        · exact .inr (.inr h)
      · refine R_lateT h0 hcl hlast hsel l.length listed a w hc (fun j oj hj hne hun => ?_) hr' (loudW_wpOp h0 h next)
        have := pair j oj hj hne hun
        simp only [okPairS, h0, hj, hcl, Bool.or_eq_true, Bool.and_eq_true, beq_iff_eq] at this
        rcases this with (h | h) | h
        · exact .inl (waits_of hj h)
        · exact .inr (.inl h)
        · exact .inr (.inr h)
theorem R_IFT {n : Nat} {Q : Act → World → Prop} (g : Nat) (hs : Region.noSelect ops = true) : ∀ (l : List Nat) (listed : Array Bool) (a : Act) (w : World), Closed ops listed → okIFT ops ex fz n g l listed = true → wpIF P ops ex fz S Q g l a w → wpAnyT P ops ex fz S n Q l.length listed a w
  | [], _, _, _, _, hB, _ => by simp [okIFT] at hB
  | k :: l, listed, a, w, hc, hB, h => by
    by_cases hkg : k = g
    · simp only [okIFT, if_pos hkg] at hB
      simp only [wpIF, if_pos hkg] at h
      exact R_IT hs (k :: l) listed a w hc hB h
    · simp only [okIFT, if_neg hkg] at hB
      simp only [wpIF, if_neg hkg] at h
      split at h
      · rename_i o og h0 hg
        simp only [h0, hg, Bool.and_eq_true] at hB
        obtain ⟨⟨⟨hr, hln⟩, hB'⟩, hf⟩ := hB
        have hlast := last_of hln
        have hr' : k ∈ Region.ready .any ops listed := by simpa using hr
        have hsel := Region.noSelect_spec hs
        have next := fun a w => R_IFT (Q := Q) g hs l (listed.setIfInBounds k true) a w (hc.set hr') hB'
        rcases clsS_cases ex fz k o with hcl | hcl | hcl <;> simp only [hcl] at h hf
        · obtain ⟨v, hy, hK⟩ := h
          simp only [List.all_eq_true, List.mem_range, Bool.or_eq_true, decide_eq_true_eq] at hf
          refine R_first0T h0 hcl hlast hsel l.length listed a w hc (fun j oj hj hne hun => ?_) hr' hy (next _ _ hK)
          have this := pair_of (ex := ex) (fz := fz) h0 hj (by rcases hf j (Array.getElem?_eq_some_iff.1 hj).1 with (h | h) | h
                                                               · exact .inl h
                                                               · exact .inr (.inl h)
                                                               · exact .inr (.inr h)) hne hun
          simp only [okPairS, h0, hj, hcl, Bool.or_eq_true] at this
          rcases this with (h | h) | h
          · exact .inl (waits_of hj h)
          · exact .inr (.inl h)
          · exact .inr (.inr h)
        · simp only [Bool.and_eq_true, beq_iff_eq, List.all_eq_true, List.mem_range, Bool.or_eq_true, decide_eq_true_eq] at hf
          obtain ⟨⟨⟨⟨⟨hrg, hlng⟩, hcg⟩, hf⟩, hlen⟩, hBD⟩ := hf
          have hrg' : g ∈ Region.ready .any ops listed := by simpa using hrg
          have nextD := fun a w h => by
            have := R_IT (n := n) (Q := Q) (P := P) (S := S) (ex := ex) (fz := fz) hs ((k :: l).erase g) (listed.setIfInBounds g true) a w (hc.set hrg') hBD h
            rw [hlen] at this
            exact this
          refine R_late2T h0 hg hcl hcg hlast hsel l.length listed a w hc (fun j oj hj hne hne2 hun => ?_) hr' hrg' (loudW_wpOp h0 h.1 next) (loudW_wpOp hg h.2 nextD)
          rcases hf j (Array.getElem?_eq_some_iff.1 hj).1 with ((h | h) | h) | this
          · rw [hun] at h; cases h
          · exact absurd h hne
          · exact absurd h hne2
          · simp only [okPair2, h0, hg, hj, Bool.or_eq_true, Bool.and_eq_true, beq_iff_eq] at this
            rcases this with (((h | h) | h) | h) | ⟨⟨h, h'⟩, h''⟩
            · exact .inl (.inl (waits_of hj h))
            · exact .inl (.inr (waits_of hj h))
            · exact .inr (.inl (.inl h))
            · exact .inr (.inl (.inr h))
            · exact .inr (.inr ⟨h, h', h''⟩)
      · exact h.elim
def okAllFT (ex fz : List Nat) (g : Nat) (l : List Nat) (ops : Array Oper) : Bool := Region.noSelect ops && decide (l.length + 1 = ops.size) && noAfter ops (ops.size - 1) && okIFT ops ex fz (ops.size - 1) g l (Array.replicate ops.size false)
/-- the last operation, number n -/
def lastOp (P : Program) (ops : Array Oper) (n : Nat) (Q : Act → World → Prop) (a : Act) (w : World) : Prop := wpOp P ops (Exit.then Q NoOut) n Q a w
/-- A REGION THAT DRAWS ITS ORDER, IN THE ORDER order (all but the last one), NUMBER g FLOATS; the last operation may break S. -/
theorem wp_region_FT {id : Nat} {Q : Exit → Act → World → Prop} {a : Act} {w : World} {l : List Oper} (ex fz : List Nat) (order : List Nat) (g : Nat) (S : World → Prop) (hm : P.follows .mixedOrders = true) (hB : okAllFT ex fz g order l.toArray = true) (hS : S w.drew)
    (h : S w.drew → wpIF P l.toArray ex fz S (lastOp P l.toArray order.length (Q .normal)) g order a w.drew) : (Code.region id l.toArray true).wp P Q a w := by
  simp only [okAllFT, Bool.and_eq_true, decide_eq_true_eq, List.size_toArray] at hB
  obtain ⟨⟨⟨hs, hl⟩, hna⟩, hg⟩ := hB
  refine wp_mono (wp_region_any (Q := Exit.then (Q .normal) NoOut) hm ?_) (fun e a w h => by cases e <;> first | exact h | exact (h : False).elim)
  rw [List.size_toArray, ← hl] 
  rw [← hl] at hg hna
  simp only [Nat.add_sub_cancel] at hg hna
  refine wpAny_of_T (ex := ex) (fz := fz) (S := S) (n := order.length) (ready_after hna) order.length _ _ _ hS ?_
  exact R_IFT (P := P) (ex := ex) (fz := fz) (S := S) (n := order.length) g hs order _ a w.drew (fun j oj _ hl => (by rw [getD_replicate_false] at hl; cases hl)) hg (h hS)
theorem lastOp_of {Q : Act → World → Prop} {n : Nat} {o : Oper} {a : Act} {w : World} (h0 : ops.toList[n]? = some o) (h : ∀ K : Act → World → Prop, (∀ a w, Q a w → K a w) → wpList P ops (Exit.then K NoOut) [o] a w) : lastOp P ops n Q a w := by
  rw [Array.getElem?_toList] at h0
  have h := h Q (fun _ _ h => h)
  unfold wpList at h
  unfold lastOp wpOp
  simp only [h0]
  split at h
  · rename_i hw; rw [if_pos hw]
    rcases h with h | h
    · exact .inl (Oper.wp_mono (fun a w h => h) h)
    · exact .inr h
  · rename_i hw; rw [if_neg hw]; exact h
end
end
section
open Go.RowKit
/-- a value that reads as these trails -/
def RdTs (w : World) (v : Value) (ts : List Tr) : Prop := ∃ A c, v = .slice A ts.length c ∧ ts.length ≤ c ∧ (0 < ts.length → ∃ g o, A = some ⟨g, o, none⟩ ∧ g < w.heap.size ∧ ∀ i, i < ts.length → w.rangeAt g (o + i * 33) (trL (nthT ts i).1 (nthT ts i).2))
theorem RdTs.nil (w : World) : RdTs w (.slice none 0 0) [] := ⟨none, 0, rfl, Nat.le_refl _, fun h => absurd h (by simp)⟩
theorem RdTs.keep {w w' : World} {v : Value} {ts : List Tr} (h : RdTs w v ts) (hs : w.heap.size ≤ w'.heap.size) (hb : ∀ k, v.ownBlock = some k → k < w.heap.size → w'.heap[k]? = w.heap[k]?) : RdTs w' v ts := by
  obtain ⟨A, c, rfl, h2, h3⟩ := h
  refine ⟨A, c, rfl, h2, fun h0 => ?_⟩
  obtain ⟨g, o, rfl, hg, hc⟩ := h3 h0
  exact ⟨g, o, rfl, by omega, fun i hi j u hu => (World.cell?_of_block (w := w) (a := ⟨g, o + i * 33 + j, none⟩) (hb g rfl hg)).trans (hc i hi j u hu)⟩
theorem RdTs.step {w w' : World} {v : Value} {ts : List Tr} (h : RdTs w v ts) (hb : Below w.heap.size w w') : RdTs w' v ts := h.keep hb.size fun k _ hk => hb.block k hk
theorem OwnT.rd {w : World} {base : Nat} {v : Value} {ts : List Tr} (h : OwnT w base v ts) (hok : OkT ts) : RdTs w v ts := by
  have hn : ∀ A n c, v = .slice A n c → n = ts.length → ts.length ≤ c := by
    rintro A n c rfl -
    rcases h with ⟨h1, h2⟩ | ⟨g, o, c', cur, hv, _, _, hn, _⟩
    · rw [h2]; exact Nat.zero_le _
    · injection hv with e1 e2 e3
      omega
  obtain ⟨A, c, rfl⟩ := h.slice
  refine ⟨A, c, rfl, hn A _ c rfl rfl, fun h0 => ?_⟩
  obtain ⟨-, g, o, rfl, hg, _⟩ := h.elem hok h0
  refine ⟨g, o, rfl, hg, fun i hi => ?_⟩
  obtain ⟨-, g', o', e, _, hr⟩ := h.elem hok hi
  injection e with e
  injection e with e1 e2 e3
  subst e1; subst e2
  exact hr
/-- an own list of the document's trails -/
def OwnD (w : World) (base : Nat) (v : Value) (ts : List Tr) : Prop := OwnG 66 33 (fun _ => true) w base v ts.length (flatT ts)
theorem OwnD.rd {w : World} {base : Nat} {v : Value} {ts : List Tr} (h : OwnD w base v ts) (hok : OkT ts) : RdTs w v ts := by
  obtain ⟨A, c, e, hn⟩ := OwnG.slice h
  refine ⟨A, c, e, hn, fun h0 => ?_⟩
  obtain ⟨g, o, c', e', _, hg⟩ := OwnG.addr h h0
  rw [e'] at e
  injection e with e1 e2 e3
  refine ⟨g, o, e1.symm, hg, fun i hi j u hu => ?_⟩
  have := OwnG.range h e' (i * 33 + j) (flatT_get ts hok i hi j u hu)
  rw [← Nat.add_assoc] at this
  exact this
theorem flatT_div {ts : List Tr} (hok : OkT ts) {j : Nat} {u : Value} (hu : (flatT ts)[j]? = some u) : j / 33 < ts.length ∧ (trL (nthT ts (j / 33)).1 (nthT ts (j / 33)).2)[j % 33]? = some u := by
  have hj := (List.getElem?_eq_some_iff.1 hu).1
  rw [flatT_length ts hok] at hj
  have hi : j / 33 < ts.length := by omega
  refine ⟨hi, ?_⟩
  have hm : j % 33 < (trL (nthT ts (j / 33)).1 (nthT ts (j / 33)).2).length := by rw [trL_length _ (nthT_ok hok hi)]; omega
  have h2 := flatT_get ts hok (j / 33) hi (j % 33) _ (List.getElem?_eq_getElem hm)
  rw [show j / 33 * 33 + j % 33 = j by omega, hu] at h2
  rw [List.getElem?_eq_getElem hm]; exact h2.symm
theorem RdTs.src {w : World} {v : Value} {ts : List Tr} (h : RdTs w v ts) (hok : OkT ts) : ∃ A c, v = .slice A ts.length c ∧ SrcAt w A (flatT ts) := by
  obtain ⟨A, c, rfl, _, h3⟩ := h
  refine ⟨A, c, rfl, fun h0 => ?_⟩
  rw [flatT_length ts hok] at h0
  obtain ⟨g, o, rfl, hg, hc⟩ := h3 (by omega)
  refine ⟨g, o, rfl, fun j u hu => ?_⟩
  obtain ⟨h1, h2⟩ := flatT_div hok hu
  have := hc _ h1 _ _ h2
  rw [show o + j / 33 * 33 + j % 33 = o + j by omega] at this
  exact this
theorem flatT_one {ts : List Tr} : ∀ u ∈ flatT ts, u.oneCell' = true := fun u hu => by
  obtain ⟨t, _, h⟩ := List.mem_flatMap.1 hu
  exact trL_one _ _ u h
theorem dInfo : (Tryd.prog.info? 66).map (fun i => (i.zero.isSome, i.size, i.bytes)) = some (true, 33, 36) := by kernel_rfl
theorem dZero : ((Tryd.prog.info? 66).bind (·.zero)) = some (.agg (trC (zeros 32) 0)) := by
  rw [trC_def, trL, u8v_def, zeros_def, n32_def]
  kernel_rfl
theorem dInfo_parts : ∃ i z, Tryd.prog.info? 66 = some i ∧ i.zero = some z ∧ i.size = 33 ∧ i.bytes = 36 ∧ z.cells.size = 33 := by
  obtain ⟨i, hi, h⟩ := Option.map_eq_some_iff.1 dInfo
  simp only [Prod.mk.injEq] at h
  obtain ⟨z, hz⟩ := Option.isSome_iff_exists.1 h.1
  refine ⟨i, z, hi, hz, h.2.1, h.2.2, ?_⟩
  have := dZero
  rw [hi] at this
  simp only [Option.bind_some, hz, Option.some.injEq] at this
  rw [this]
  exact trC_size _ (zeros_length 32) 0
theorem wp_appendD {w : World} {o : Oper} {a : Act} {K : Act → World → Prop} {Q : Exit → Act → World → Prop} (s x : Operand)
    (ho : o.op = .call { callee := .builtin .append, args := #[s, x], argTypes := #[104, 104] })
    {base N : Nat} {v : Value} {ts us : List Tr} {A : Option Addr} {n c : Nat} (hs : a.eval s = v) (hown : OwnD w base v ts) (hx : a.eval x = .slice A n c) (hn : n = us.length) (hsrc : SrcAt w A (flatT us)) (hok : OkT us) (hN : ts.length + n = N)
    (hlen : N ≤ 1000) (hbase : base ≤ w.heap.size)
    (hK : ∀ A' c' w', OwnD w' base (.slice A' N c') (ts ++ us) → w.grownBy w' v.ownBlock → K (a.put o.dst (.slice A' N c')) w') : o.wp Tryd.prog a w K Q := by
  subst hn
  obtain ⟨i, z, hi, hz, hsz, hby, hzc⟩ := dInfo_parts
  have hl := flatT_length us hok
  refine wp_appendG (s := 33) (p := fun _ => true) Tryd.underlying104 hi hz hsz hby hzc (by omega) (by rw [Array.all_eq_true]; intros; rfl) s x ho hs hown hx hl hsrc flatT_one (fun _ _ => rfl) hN (by simp only [maxLen]; omega) (by omega) hbase (fun A' c' w' h1 h2 _ => hK A' c' w' ?_ h2)
  unfold OwnD
  rw [List.length_append, hN, show flatT (ts ++ us) = flatT ts ++ flatT us by simp [flatT]]
  exact h1
theorem wpList_appendD {w : World} {o : Oper} {a : Act} {ops : Array Oper} {rest : List Oper} {Q : Exit → Act → World → Prop} (hgd : o.guard = none) (s x : Operand)
    (ho : o.op = .call { callee := .builtin .append, args := #[s, x], argTypes := #[104, 104] })
    {base N : Nat} {v : Value} {ts us : List Tr} {A : Option Addr} {n c : Nat} (hs : a.eval s = v) (hown : OwnD w base v ts) (hx : a.eval x = .slice A n c) (hn : n = us.length) (hsrc : SrcAt w A (flatT us)) (hok : OkT us) (hN : ts.length + n = N)
    (hlen : N ≤ 1000) (hbase : base ≤ w.heap.size)
    (hK : ∀ A' c' w', OwnD w' base (.slice A' N c') (ts ++ us) → w.grownBy w' v.ownBlock → wpList Tryd.prog ops Q rest (a.put o.dst (.slice A' N c')) w') : wpList Tryd.prog ops Q (o :: rest) a w :=
  wpList_plain hgd fun _ hK' => wp_appendD s x ho hs hown hx hn hsrc hok hN hlen hbase fun A' c' w' h2 h3 => hK' _ _ (hK A' c' w' h2 h3)
theorem srcOne {w : World} {b : Nat} {h : List UInt8} {n : UInt32} (hr : RowIs w b (trC h n)) : SrcAt w (some ⟨b, 0, none⟩) (flatT [(h, n)]) := fun _ => ⟨b, 0, rfl, fun j u hu => by
  have hr' : RowIs w b (trL h n).toArray := by rw [← trC_def]; exact hr
  have e : flatT [(h, n)] = trL h n := by simp [flatT]
  rw [e] at hu
  have := hr'.range 0 (trL h n).length j u (by rw [List.drop_zero, List.take_length]; exact hu)
  exact this⟩
theorem xrbslT (ev : Operand → Value) (d : Option Tmp) (n : Nat) (ps : Array (Nat × Operand)) (ty : TypeId) (p : String) (af : Array Edge) (g : Option (Nat × Bool)) :
    execOp ev ⟨d, .buildSlice 104 n ps, ty, p, af, g⟩ = bsliceK 104 n (ps.map fun x => (x.1, ev x.2)) := exec_bsliceK ev d _ n ps ty p af g
theorem rbslT1 (cs : Array Value) (hc : cs.size = 33) (w : World) : (bsliceK 104 1 #[(0, .agg cs)]).run Tryd.prog w = .ok (.value (.slice (some ⟨w.heap.size, 0, none⟩) 1 1)) (w.alloc (.cells cs 66)) :=
  run_bsliceK1 Tryd.underlying104 (by kernel_rfl) (by omega) (by omega) cs hc w
theorem rbslT0 (w : World) : (bsliceK 104 0 #[]).run Tryd.prog w = .ok (.value (.slice (some ⟨w.heap.size, 0, none⟩) 0 0)) (w.alloc (.cells #[] 66)) := by
  obtain ⟨i, z, hi, hz, hsz, hby, hzc⟩ := dInfo_parts
  unfold bsliceK
  simp [Instr.buildSlice, run_underlying Tryd.underlying104, sizeOf, typeInfo, hi, newRow, Instr.fill]
  have e : Array.map (fun _ : Nat => (default : Value)) (Array.range 0) = #[] := Array.eq_empty_of_size_eq_zero (by simp)
  exact congrArg (fun cs => w.alloc (.cells cs 66)) e
/-- the document's past -/
def RefP (w : World) (r : Nat) (ts : List Tr) : Prop := ∃ u, RowIs w r #[u] ∧ RdTs w u ts
/-- a past that turned into new trails, all else as it was -/
def RAdd (r : Nat) (c : Int) (ts : List Tr) (w : World) (e : Ending) (w' : World) : Prop := e = .returned (.int .i64 c) ∧ ∃ u, RowIs w' r #[u] ∧ RdTs w' u ts ∧ Upd r w w' ∧ ∀ k, u.ownBlock = some k → w.heap.size ≤ k ∧ k < w'.heap.size
def RSame (c : Int) (w : World) (e : Ending) (w' : World) : Prop := e = .returned (.int .i64 c) ∧ Below w.heap.size w w'
attribute [local go_sem ↓] xrbslT
attribute [local go_sem] rbslT1 rbslT0 trC_size trC_one
set_option maxRecDepth 100000 in
theorem radd_full (r : Nat) (ts : List Tr) (h : List UInt8) (n : UInt32) (w : World) (hp : RefP w r ts) (h64 : 64 ≤ ts.length) (hl : ts.length ≤ 1000) :
    Calls Tryd.prog 59 #[.pointer (some ⟨r, 0, none⟩), .agg (trC h n)] w (RSame 63 w) := by
  obtain ⟨v, h1, A, c, rfl, -, -⟩ := hp
  have hc := pcell h1
  obtain ⟨m, hm⟩ : ∃ m, m = ts.length := ⟨_, rfl⟩
  rw [← hm] at hc h64
  have hge : (64 : Int) ≤ m := by omega
  have hpl := h1.lt
  have hB : Below w.heap.size w (w.alloc (.cells (trC h n) 66)) := (by repeat (first | with_reducible exact Below.refl _ _ | with_reducible assumption | refine Below.drew ?_ | refine below_drewN ?_ | refine Below.alloc ?_ (by first | omega | (simp; done) | (simp; omega)) _ | refine below_setRow ?_ (by omega) _ | refine Below.setCell ?_ (by first | omega | (simp; done) | (simp; omega)) _))
  clear hm h1
  go_enter Tryd.func59, Tryd.ntmps59
  go_wp2_with fail
  go_ret
  exact ⟨rfl, hB⟩
set_option maxRecDepth 100000 in
set_option maxHeartbeats 1600000 in
theorem radd_arg (r : Nat) (ts : List Tr) (h : List UInt8) (hh : h.length = 32) (n : UInt32) (w : World) (hp : RefP w r ts) (hok : OkT ts) (h64 : ts.length < 64) (h0 : 0 < ts.length) (hn : n ≠ (nthT ts (ts.length - 1)).2 + 1) :
    Calls Tryd.prog 59 #[.pointer (some ⟨r, 0, none⟩), .agg (trC h n)] w (RSame 1 w) := by
  obtain ⟨v, h1, A, c, rfl, -, hrd⟩ := hp
  obtain ⟨g, o, rfl, hg, hel⟩ := hrd h0
  have hnum := tr_num (hel (ts.length - 1) (by omega)) (nthT_ok hok (by omega))
  obtain ⟨y, hy⟩ : ∃ y, y = (nthT ts (ts.length - 1)).2 := ⟨_, rfl⟩
  rw [← hy] at hnum hn
  have hc := pcell h1
  obtain ⟨m, hm⟩ : ∃ m, m = ts.length := ⟨_, rfl⟩
  rw [← hm] at hc hnum h64 h0
  have hpl := h1.lt
  have hB : Below w.heap.size w (w.alloc (.cells (trC h n) 66)) := (by repeat (first | with_reducible exact Below.refl _ _ | with_reducible assumption | refine Below.drew ?_ | refine below_drewN ?_ | refine Below.alloc ?_ (by first | omega | (simp; done) | (simp; omega)) _ | refine below_setRow ?_ (by omega) _ | refine Below.setCell ?_ (by first | omega | (simp; done) | (simp; omega)) _))
  have f1 := (hB.cell (p := ⟨r, 0, none⟩) hpl).trans hc
  have f2 := (hB.cell (p := ⟨g, o + (m - 1) * 33 + 32, none⟩) hg).trans hnum
  have f3 := TrRow.num (w := w.alloc (.cells (trC h n) 66)) (b := w.heap.size) (RowIs.new _ _ _) hh
  have i1 : ¬ (64 : Int) ≤ m := by omega
  have i2 : (0 : Int) < m := by omega
  have hsub : (m : Int) - 1 = ((m - 1 : Nat) : Int) := by omega
  have hi3 : (((m - 1 : Nat) : Int)) < m := by omega
  have hwr : IntKind.u32.wrap (n32 y + 1) = n32 (y + 1) := by rw [n32_def, n32_def, UInt32.toNat_add, wrap_u32]; simp
  have hne : ((n32 (y + 1) : Int) != n32 n) = true := by
    rw [bne_iff_ne]
    exact fun e => hn (n32_inj e).symm
  clear hm h1 hel hy hn hrd
  go_enter Tryd.func59, Tryd.ntmps59
  go_wp2_with fail
  obtain ⟨x, hx⟩ : ∃ x, x = w.alloc (.cells (trC h n) 66) := ⟨_, rfl⟩
  rw [← hx] at f1 f2 f3 hB ⊢
  clear hx
  refine wp_region_lexS [] [3, 10, 14, 19, 22] (SameC x) (by kernel_rfl) (by decide +kernel) (fun _ => rfl) (fun _ => ?_)
  (go_wp2_with (first | (refine wpLexS_nil ?_) | (refine wpLexS_pure rfl (fun _ _ => ?_); go_simp; refine ⟨_, fun w9 hw9 => (by have s1 := (hw9 _).trans f1; have s2 := (hw9 _).trans f2; have s3 := (hw9 _).trans f3; go_simp; rfl), ?_⟩) | (refine wpLexS_pure0 rfl (fun _ _ => ?_); go_simp; try go_bits) | (refine wpLexS_read rfl (fun _ _ => ?_); go_simp; try go_bits) | (refine wpLexS_loud rfl (fun KL hKL => ?_))))
  go_ret
  exact ⟨rfl, hB.drew⟩
end
section
open Go.RowKit
attribute [local go_sem ↓] xrbslT
attribute [local go_sem] rbslT1 rbslT0 trC_size trC_one
set_option maxRecDepth 100000 in
set_option maxHeartbeats 3200000 in
theorem radd_first (r : Nat) (ts : List Tr) (H0 : List UInt8) (hh : H0.length = 32) (n : UInt32) (w : World) (hp : RefP w r ts) (hok : OkT ts) (h0 : ts.length = 0) :
    Calls Tryd.prog 59 #[.pointer (some ⟨r, 0, none⟩), .agg (trC H0 n)] w (RAdd r 0 (ts ++ [(H0, n)]) w) := by
  obtain ⟨v, h1, hrd⟩ := hp
  obtain ⟨A, c, rfl, -, hel⟩ := id hrd
  obtain ⟨m, hm⟩ : ∃ m, m = ts.length := ⟨_, rfl⟩
  have HM := Lib.hid hm
  rw [← hm] at h1 h0 hrd
  have hc := pcell h1
  have hpl := h1.lt
  have hB : Below w.heap.size w (w.alloc (.cells (trC H0 n) 66)) := (by repeat (first | with_reducible exact Below.refl _ _ | with_reducible assumption | refine Below.drew ?_ | refine below_drewN ?_ | refine Below.alloc ?_ (by first | omega | (simp; done) | (simp; omega)) _ | refine below_setRow ?_ (by omega) _ | refine Below.setCell ?_ (by first | omega | (simp; done) | (simp; omega)) _))
  have RB : RowIs (w.alloc (.cells (trC H0 n) 66)) w.heap.size (trC H0 n) := RowIs.new _ _ _
  have f1 := (hB.cell (p := ⟨r, 0, none⟩) hpl).trans hc
  replace h1 := h1.step hB
  replace hrd := hrd.step hB
  have i1 : ¬ (64 : Int) ≤ m := by omega
  have i2 : ¬ (0 : Int) < m := by omega
  have hm5 : m < 64 := by omega
  clear hm h0 hc hel
  go_enter Tryd.func59, Tryd.ntmps59
  go_wp2_with fail
  obtain ⟨x0, hx⟩ : ∃ x, x = w.alloc (.cells (trC H0 n) 66) := ⟨_, rfl⟩
  rw [← hx] at f1 hB RB h1 hrd ⊢
  clear hx
  refine wp_region_lexS [] [3, 10, 14, 19, 22] (SameC x0) (by kernel_rfl) (by decide +kernel) (fun _ => rfl) (fun _ => ?_)
  (go_wp2_with (first | (refine wpLexS_nil ?_) | (refine wpLexS_pure rfl (fun _ _ => ?_); go_simp; refine ⟨_, fun w9 hw9 => (by have s1 := (hw9 _).trans f1; go_simp; rfl), ?_⟩) | (refine wpLexS_pure0 rfl (fun _ _ => ?_); go_simp; try go_bits) | (refine wpLexS_read rfl (fun _ _ => ?_); go_simp; try go_bits) | (refine wpLexS_loud rfl (fun KL hKL => ?_))))
  have hd : Below x0.heap.size x0 x0.drew := (by repeat (first | with_reducible exact Below.refl _ _ | with_reducible assumption | refine Below.drew ?_ | refine below_drewN ?_ | refine Below.alloc ?_ (by first | omega | (simp; done) | (simp; omega)) _ | refine below_setRow ?_ (by omega) _ | refine Below.setCell ?_ (by first | omega | (simp; done) | (simp; omega)) _))
  replace h1 := h1.step hd
  replace hrd := hrd.step hd
  replace RB := RB.step hd
  replace hB := hB.trans (hd.mono hB.size)
  generalize x0.drew = x at h1 hrd RB hB ⊢
  clear hd f1
  refine wp_region_FT [] [5, 7] [0, 2, 3, 4, 5, 7, 1, 6, 8, 9, 10, 11] 8 (PastS r w.heap.size (.slice A m c) (trC H0 n)) (by kernel_rfl) (by decide +kernel) ⟨h1.drew, RB.drew⟩ (fun hS => ?_)
  have hd : Below x.heap.size x x.drew := (by repeat (first | with_reducible exact Below.refl _ _ | with_reducible assumption | refine Below.drew ?_ | refine below_drewN ?_ | refine Below.alloc ?_ (by first | omega | (simp; done) | (simp; omega)) _ | refine below_setRow ?_ (by omega) _ | refine Below.setCell ?_ (by first | omega | (simp; done) | (simp; omega)) _))
  replace hrd := hrd.step hd
  replace hB := hB.trans (hd.mono hB.size)
  generalize x.drew = W at hrd hS hB ⊢
  clear h1 RB hd
  have hz : w.heap.size + 1 ≤ W.heap.size := hS.2.lt
  (go_wp2_with (first | (refine wpIF_here rfl ?_) | (refine wpIF_pure (by decide) rfl rfl rfl (fun _ _ => ?_); go_simp; refine ⟨_, fun w9 hw9 => (by have s1 := pcell hw9.1; have s2 := rtrload hw9.2 hh; go_simp; rfl), ?_⟩) | (refine wpIF_pure0 (by decide) rfl rfl rfl (fun _ _ => ?_); go_simp; try go_bits)))
  refine wpIF_loud [1, 6, 9, 10, 11] rfl (by decide) rfl rfl rfl (fun KL hKL => ?_) (fun KL hKL => ?_)
  · go_wp2_with fail
    have hq : Below W.heap.size W (W.alloc (.cells #[] 66)) := (by repeat (first | with_reducible exact Below.refl _ _ | with_reducible assumption | refine Below.drew ?_ | refine below_drewN ?_ | refine Below.alloc ?_ (by first | omega | (simp; done) | (simp; omega)) _ | refine below_setRow ?_ (by omega) _ | refine Below.setCell ?_ (by first | omega | (simp; done) | (simp; omega)) _))
    have O1 : OwnD (W.alloc (.cells #[] 66)) (w.heap.size + 1) (.slice (some ⟨W.heap.size, 0, none⟩) 0 0) [] := OwnG.new _ 33 _ W (w.heap.size + 1) [] 0 (by simp) (by simp) hz (by simp [maxLen]) rfl
    replace hrd := hrd.step hq
    replace hB := hB.trans (hq.mono hB.size)
    replace hS : PastS r w.heap.size (.slice A m c) (trC H0 n) (W.alloc (.cells #[] 66)) := ⟨hS.1.step hq, hS.2.step hq⟩
    replace hz := Nat.le_trans hz hq.size
    obtain ⟨e0, he0⟩ : ∃ e, e = W.heap.size := ⟨_, rfl⟩
    have hez : e0 < (W.alloc (.cells #[] 66)).heap.size := by rw [he0]; simp
    rw [← he0] at O1 ⊢
    refine hKL _ _ hS (fun _ => ?_)
    clear hq he0
    generalize W.alloc (.cells #[] 66) = W at *
    (go_wp2_with (first | (refine wpIF_here rfl ?_) | (refine wpIF_pure (by decide) rfl rfl rfl (fun _ _ => ?_); go_simp; refine ⟨_, fun w9 hw9 => (by have s1 := pcell hw9.1; have s2 := rtrload hw9.2 hh; go_simp; rfl), ?_⟩) | (refine wpIF_pure0 (by decide) rfl rfl rfl (fun _ _ => ?_); go_simp; try go_bits)))
    refine wpIF_loud [6, 9, 10, 11] rfl (by decide) rfl rfl rfl (fun KL hKL => ?_) (fun KL hKL => ?_)
    · obtain ⟨A', c', e, hsrc⟩ := hrd.src hok
      injection e with e1 e2 e3
      subst e1; subst e3; clear e2
      refine wpList_wanted (by rfl) (fun K1 hK1 => ?_)
      refine wp_appendD (N := m) (.tmp 37) (.tmp 41) rfl rfl O1 rfl HM.out hsrc hok (by simp) (by omega) hz ?_
      intro A5 c5 W5 O5 gr5
      rw [List.nil_append] at O5
      have bel5 := OwnG.below O1 gr5 hz
      refine hK1 _ _ ?_
      go_wp2_with fail
      replace hS : PastS r w.heap.size (.slice A m c) (trC H0 n) W5 := ⟨hS.1.below bel5 (by omega), hS.2.below bel5 (by omega)⟩
      replace hB := hB.trans (bel5.mono (by omega))
      replace hz := Nat.le_trans hz bel5.size
      refine hKL _ _ hS (fun _ => ?_)
      clear hrd hsrc O1 gr5 bel5
      obtain ⟨W, hW⟩ : ∃ W, W = W5 := ⟨_, rfl⟩
      subst hW
      (go_wp2_with (first | (refine wpIF_here rfl ?_) | (refine wpIF_pure (by decide) rfl rfl rfl (fun _ _ => ?_); go_simp; refine ⟨_, fun w9 hw9 => (by have s1 := pcell hw9.1; have s2 := rtrload hw9.2 hh; go_simp; rfl), ?_⟩) | (refine wpIF_pure0 (by decide) rfl rfl rfl (fun _ _ => ?_); go_simp; try go_bits)))
      (go_wp2_with (first | (refine wpI_pure rfl rfl (fun _ _ => ?_); go_simp; refine ⟨_, fun w9 hw9 => (by have s1 := pcell hw9.1; have s2 := rtrload hw9.2 hh; go_simp; rfl), ?_⟩) | (refine wpI_pure0 rfl rfl (fun _ _ => ?_); go_simp; try go_bits)))
      refine wpI_loud rfl rfl (fun KL hKL => ?_)
      go_wp2_with fail
      have hq : Below W.heap.size W (W.alloc (.cells (trC H0 n) 66)) := (by repeat (first | with_reducible exact Below.refl _ _ | with_reducible assumption | refine Below.drew ?_ | refine below_drewN ?_ | refine Below.alloc ?_ (by first | omega | (simp; done) | (simp; omega)) _ | refine below_setRow ?_ (by omega) _ | refine Below.setCell ?_ (by first | omega | (simp; done) | (simp; omega)) _))
      have RN : RowIs (W.alloc (.cells (trC H0 n) 66)) W.heap.size (trC H0 n) := RowIs.new _ _ _
      replace O5 : OwnD (W.alloc (.cells (trC H0 n) 66)) (w.heap.size + 1) (.slice A5 m c5) ts := OwnG.step O5 hq
      replace hB := hB.trans (hq.mono hB.size)
      replace hS : PastS r w.heap.size (.slice A m c) (trC H0 n) (W.alloc (.cells (trC H0 n) 66)) := ⟨hS.1.step hq, hS.2.step hq⟩
      replace hz := Nat.le_trans hz hq.size
      obtain ⟨b8, hb8⟩ : ∃ e, e = W.heap.size := ⟨_, rfl⟩
      have hb8z : b8 < (W.alloc (.cells (trC H0 n) 66)).heap.size := by rw [hb8]; simp
      rw [← hb8] at RN ⊢
      refine hKL _ _ hS (fun _ => ?_)
      clear hq hb8
      generalize W.alloc (.cells (trC H0 n) 66) = W at *
      (go_wp2_with (first | (refine wpI_pure rfl rfl (fun _ _ => ?_); go_simp; refine ⟨_, fun w9 hw9 => (by have s1 := pcell hw9.1; have s2 := rtrload hw9.2 hh; go_simp; rfl), ?_⟩) | (refine wpI_pure0 rfl rfl (fun _ _ => ?_); go_simp; try go_bits)))
      refine wpI_loud rfl rfl (fun KL hKL => ?_)
      refine wpList_wanted (by rfl) (fun K1 hK1 => ?_)
      refine wp_appendD (N := m + 1) (us := [(H0, n)]) (.tmp 42) (.tmp 44) rfl rfl O5 rfl rfl (srcOne RN) (fun t ht => by rw [List.mem_singleton.1 ht]; exact hh) (by rw [HM.out]) (by omega) hz ?_
      intro A7 c7 W7 O7 gr7
      have bel7 := OwnG.below O5 gr7 hz
      refine hK1 _ _ ?_
      go_wp2_with fail
      replace hS : PastS r w.heap.size (.slice A m c) (trC H0 n) W7 := ⟨hS.1.below bel7 (by omega), hS.2.below bel7 (by omega)⟩
      replace hB := hB.trans (bel7.mono (by omega))
      refine hKL _ _ hS (fun _ => ?_)
      clear RN O5 gr7 bel7
      (go_wp2_with (first | (refine wpI_pure rfl rfl (fun _ _ => ?_); go_simp; refine ⟨_, fun w9 hw9 => (by have s1 := pcell hw9.1; have s2 := rtrload hw9.2 hh; go_simp; rfl), ?_⟩) | (refine wpI_pure0 rfl rfl (fun _ _ => ?_); go_simp; try go_bits)))
      refine wpI_nil ?_
      refine lastOp_of rfl (fun KL hKL => ?_)
      have cp := pcell hS.1
      have fp := RowIs.fz hS.1 0
      go_wp2_with fail
      go_ret
      have hu : Upd r w (W7.setCell ⟨r, 0, none⟩ (.slice A7 (m + 1) c7)) := (Upd.of hB).put 0 _
      have own8 : OwnD (W7.setCell ⟨r, 0, none⟩ (.slice A7 (m + 1) c7)) (w.heap.size + 1) (.slice A7 (m + 1) c7) (ts ++ [(H0, n)]) := OwnG.keep O7 fun k _ hk _ => Below.heap_setCell _ _ _ _ (by simp; omega)
      have hok2 : OkT (ts ++ [(H0, n)]) := fun t ht => by
        rcases List.mem_append.1 ht with ht | ht
        · exact hok t ht
        · rw [List.mem_singleton.1 ht]; exact hh
      exact ⟨rfl, _, by simpa using hS.1.put 0 (.slice A7 (m + 1) c7), own8.rd hok2, hu, fun k hk => ⟨Nat.le_of_succ_le (OwnG.lt own8 hk).1, (OwnG.lt own8 hk).2⟩⟩
    · go_wp2_with fail
      have hq : Below W.heap.size W (W.alloc (.cells (trC H0 n) 66)) := (by repeat (first | with_reducible exact Below.refl _ _ | with_reducible assumption | refine Below.drew ?_ | refine below_drewN ?_ | refine Below.alloc ?_ (by first | omega | (simp; done) | (simp; omega)) _ | refine below_setRow ?_ (by omega) _ | refine Below.setCell ?_ (by first | omega | (simp; done) | (simp; omega)) _))
      have RN : RowIs (W.alloc (.cells (trC H0 n) 66)) W.heap.size (trC H0 n) := RowIs.new _ _ _
      replace O1 : OwnD (W.alloc (.cells (trC H0 n) 66)) (w.heap.size + 1) (.slice (some ⟨e0, 0, none⟩) 0 0) [] := OwnG.step O1 hq
      replace hrd := hrd.step hq
      replace hB := hB.trans (hq.mono hB.size)
      replace hS : PastS r w.heap.size (.slice A m c) (trC H0 n) (W.alloc (.cells (trC H0 n) 66)) := ⟨hS.1.step hq, hS.2.step hq⟩
      replace hz := Nat.le_trans hz hq.size
      obtain ⟨b8, hb8⟩ : ∃ e, e = W.heap.size := ⟨_, rfl⟩
      have hb8z : b8 < (W.alloc (.cells (trC H0 n) 66)).heap.size := by rw [hb8]; simp
      have hne : e0 ≠ b8 := by omega
      rw [← hb8] at RN ⊢
      refine hKL _ _ hS (fun _ => ?_)
      clear hq hb8
      generalize W.alloc (.cells (trC H0 n) 66) = W at *
      (go_wp2_with (first | (refine wpI_pure rfl rfl (fun _ _ => ?_); go_simp; refine ⟨_, fun w9 hw9 => (by have s1 := pcell hw9.1; have s2 := rtrload hw9.2 hh; go_simp; rfl), ?_⟩) | (refine wpI_pure0 rfl rfl (fun _ _ => ?_); go_simp; try go_bits)))
      refine wpI_loud rfl rfl (fun KL hKL => ?_)
      obtain ⟨A', c', e, hsrc⟩ := hrd.src hok
      injection e with e1 e2 e3
      subst e1; subst e3; clear e2
      refine wpList_wanted (by rfl) (fun K1 hK1 => ?_)
      refine wp_appendD (N := m) (.tmp 37) (.tmp 41) rfl rfl O1 rfl HM.out hsrc hok (by simp) (by omega) hz ?_
      intro A5 c5 W5 O5 gr5
      rw [List.nil_append] at O5
      have bel5 := OwnG.below O1 gr5 hz
      refine hK1 _ _ ?_
      go_wp2_with fail
      replace RN := RN.grown gr5 (fun e => hne (Option.some.inj e))
      replace hS : PastS r w.heap.size (.slice A m c) (trC H0 n) W5 := ⟨hS.1.below bel5 (by omega), hS.2.below bel5 (by omega)⟩
      replace hB := hB.trans (bel5.mono (by omega))
      replace hz := Nat.le_trans hz bel5.size
      refine hKL _ _ hS (fun _ => ?_)
      clear hrd hsrc O1 gr5 bel5
      obtain ⟨W, hW⟩ : ∃ W, W = W5 := ⟨_, rfl⟩
      subst hW
      (go_wp2_with (first | (refine wpI_pure rfl rfl (fun _ _ => ?_); go_simp; refine ⟨_, fun w9 hw9 => (by have s1 := pcell hw9.1; have s2 := rtrload hw9.2 hh; go_simp; rfl), ?_⟩) | (refine wpI_pure0 rfl rfl (fun _ _ => ?_); go_simp; try go_bits)))
      refine wpI_loud rfl rfl (fun KL hKL => ?_)
      refine wpList_wanted (by rfl) (fun K1 hK1 => ?_)
      refine wp_appendD (N := m + 1) (us := [(H0, n)]) (.tmp 42) (.tmp 44) rfl rfl O5 rfl rfl (srcOne RN) (fun t ht => by rw [List.mem_singleton.1 ht]; exact hh) (by rw [HM.out]) (by omega) hz ?_
      intro A7 c7 W7 O7 gr7
      have bel7 := OwnG.below O5 gr7 hz
      refine hK1 _ _ ?_
      go_wp2_with fail
      replace hS : PastS r w.heap.size (.slice A m c) (trC H0 n) W7 := ⟨hS.1.below bel7 (by omega), hS.2.below bel7 (by omega)⟩
      replace hB := hB.trans (bel7.mono (by omega))
      refine hKL _ _ hS (fun _ => ?_)
      clear RN O5 gr7 bel7
      (go_wp2_with (first | (refine wpI_pure rfl rfl (fun _ _ => ?_); go_simp; refine ⟨_, fun w9 hw9 => (by have s1 := pcell hw9.1; have s2 := rtrload hw9.2 hh; go_simp; rfl), ?_⟩) | (refine wpI_pure0 rfl rfl (fun _ _ => ?_); go_simp; try go_bits)))
      refine wpI_nil ?_
      refine lastOp_of rfl (fun KL hKL => ?_)
      have cp := pcell hS.1
      have fp := RowIs.fz hS.1 0
      go_wp2_with fail
      go_ret
      have hu : Upd r w (W7.setCell ⟨r, 0, none⟩ (.slice A7 (m + 1) c7)) := (Upd.of hB).put 0 _
      have own8 : OwnD (W7.setCell ⟨r, 0, none⟩ (.slice A7 (m + 1) c7)) (w.heap.size + 1) (.slice A7 (m + 1) c7) (ts ++ [(H0, n)]) := OwnG.keep O7 fun k _ hk _ => Below.heap_setCell _ _ _ _ (by simp; omega)
      have hok2 : OkT (ts ++ [(H0, n)]) := fun t ht => by
        rcases List.mem_append.1 ht with ht | ht
        · exact hok t ht
        · rw [List.mem_singleton.1 ht]; exact hh
      exact ⟨rfl, _, by simpa using hS.1.put 0 (.slice A7 (m + 1) c7), own8.rd hok2, hu, fun k hk => ⟨Nat.le_of_succ_le (OwnG.lt own8 hk).1, (OwnG.lt own8 hk).2⟩⟩
  · go_wp2_with fail
    have hq : Below W.heap.size W (W.alloc (.cells (trC H0 n) 66)) := (by repeat (first | with_reducible exact Below.refl _ _ | with_reducible assumption | refine Below.drew ?_ | refine below_drewN ?_ | refine Below.alloc ?_ (by first | omega | (simp; done) | (simp; omega)) _ | refine below_setRow ?_ (by omega) _ | refine Below.setCell ?_ (by first | omega | (simp; done) | (simp; omega)) _))
    have RN : RowIs (W.alloc (.cells (trC H0 n) 66)) W.heap.size (trC H0 n) := RowIs.new _ _ _
    replace hrd := hrd.step hq
    replace hB := hB.trans (hq.mono hB.size)
    replace hS : PastS r w.heap.size (.slice A m c) (trC H0 n) (W.alloc (.cells (trC H0 n) 66)) := ⟨hS.1.step hq, hS.2.step hq⟩
    replace hz := Nat.le_trans hz hq.size
    obtain ⟨b8, hb8⟩ : ∃ e, e = W.heap.size := ⟨_, rfl⟩
    have hb8z : b8 < (W.alloc (.cells (trC H0 n) 66)).heap.size := by rw [hb8]; simp
    rw [← hb8] at RN ⊢
    refine hKL _ _ hS (fun _ => ?_)
    clear hq hb8
    generalize W.alloc (.cells (trC H0 n) 66) = W at *
    (go_wp2_with (first | (refine wpI_pure rfl rfl (fun _ _ => ?_); go_simp; refine ⟨_, fun w9 hw9 => (by have s1 := pcell hw9.1; have s2 := rtrload hw9.2 hh; go_simp; rfl), ?_⟩) | (refine wpI_pure0 rfl rfl (fun _ _ => ?_); go_simp; try go_bits)))
    refine wpI_loud rfl rfl (fun KL hKL => ?_)
    go_wp2_with fail
    have hq : Below W.heap.size W (W.alloc (.cells #[] 66)) := (by repeat (first | with_reducible exact Below.refl _ _ | with_reducible assumption | refine Below.drew ?_ | refine below_drewN ?_ | refine Below.alloc ?_ (by first | omega | (simp; done) | (simp; omega)) _ | refine below_setRow ?_ (by omega) _ | refine Below.setCell ?_ (by first | omega | (simp; done) | (simp; omega)) _))
    have O1 : OwnD (W.alloc (.cells #[] 66)) (w.heap.size + 1) (.slice (some ⟨W.heap.size, 0, none⟩) 0 0) [] := OwnG.new _ 33 _ W (w.heap.size + 1) [] 0 (by simp) (by simp) hz (by simp [maxLen]) rfl
    replace RN := RN.step hq
    replace hrd := hrd.step hq
    replace hB := hB.trans (hq.mono hB.size)
    replace hS : PastS r w.heap.size (.slice A m c) (trC H0 n) (W.alloc (.cells #[] 66)) := ⟨hS.1.step hq, hS.2.step hq⟩
    replace hz := Nat.le_trans hz hq.size
    obtain ⟨e0, he0⟩ : ∃ e, e = W.heap.size := ⟨_, rfl⟩
    have hez : e0 < (W.alloc (.cells #[] 66)).heap.size := by rw [he0]; simp
    have hne : e0 ≠ b8 := by omega
    rw [← he0] at O1 ⊢
    refine hKL _ _ hS (fun _ => ?_)
    clear hq he0
    generalize W.alloc (.cells #[] 66) = W at *
    (go_wp2_with (first | (refine wpI_pure rfl rfl (fun _ _ => ?_); go_simp; refine ⟨_, fun w9 hw9 => (by have s1 := pcell hw9.1; have s2 := rtrload hw9.2 hh; go_simp; rfl), ?_⟩) | (refine wpI_pure0 rfl rfl (fun _ _ => ?_); go_simp; try go_bits)))
    refine wpI_loud rfl rfl (fun KL hKL => ?_)
    obtain ⟨A', c', e, hsrc⟩ := hrd.src hok
    injection e with e1 e2 e3
    subst e1; subst e3; clear e2
    refine wpList_wanted (by rfl) (fun K1 hK1 => ?_)
    refine wp_appendD (N := m) (.tmp 37) (.tmp 41) rfl rfl O1 rfl HM.out hsrc hok (by simp) (by omega) hz ?_
    intro A5 c5 W5 O5 gr5
    rw [List.nil_append] at O5
    have bel5 := OwnG.below O1 gr5 hz
    refine hK1 _ _ ?_
    go_wp2_with fail
    replace RN := RN.grown gr5 (fun e => hne (Option.some.inj e))
    replace hS : PastS r w.heap.size (.slice A m c) (trC H0 n) W5 := ⟨hS.1.below bel5 (by omega), hS.2.below bel5 (by omega)⟩
    replace hB := hB.trans (bel5.mono (by omega))
    replace hz := Nat.le_trans hz bel5.size
    refine hKL _ _ hS (fun _ => ?_)
    clear hrd hsrc O1 gr5 bel5
    obtain ⟨W, hW⟩ : ∃ W, W = W5 := ⟨_, rfl⟩
    subst hW
    (go_wp2_with (first | (refine wpI_pure rfl rfl (fun _ _ => ?_); go_simp; refine ⟨_, fun w9 hw9 => (by have s1 := pcell hw9.1; have s2 := rtrload hw9.2 hh; go_simp; rfl), ?_⟩) | (refine wpI_pure0 rfl rfl (fun _ _ => ?_); go_simp; try go_bits)))
    refine wpI_loud rfl rfl (fun KL hKL => ?_)
    refine wpList_wanted (by rfl) (fun K1 hK1 => ?_)
    refine wp_appendD (N := m + 1) (us := [(H0, n)]) (.tmp 42) (.tmp 44) rfl rfl O5 rfl rfl (srcOne RN) (fun t ht => by rw [List.mem_singleton.1 ht]; exact hh) (by rw [HM.out]) (by omega) hz ?_
    intro A7 c7 W7 O7 gr7
    have bel7 := OwnG.below O5 gr7 hz
    refine hK1 _ _ ?_
    go_wp2_with fail
    replace hS : PastS r w.heap.size (.slice A m c) (trC H0 n) W7 := ⟨hS.1.below bel7 (by omega), hS.2.below bel7 (by omega)⟩
    replace hB := hB.trans (bel7.mono (by omega))
    refine hKL _ _ hS (fun _ => ?_)
    clear RN O5 gr7 bel7
    (go_wp2_with (first | (refine wpI_pure rfl rfl (fun _ _ => ?_); go_simp; refine ⟨_, fun w9 hw9 => (by have s1 := pcell hw9.1; have s2 := rtrload hw9.2 hh; go_simp; rfl), ?_⟩) | (refine wpI_pure0 rfl rfl (fun _ _ => ?_); go_simp; try go_bits)))
    refine wpI_nil ?_
    refine lastOp_of rfl (fun KL hKL => ?_)
    have cp := pcell hS.1
    have fp := RowIs.fz hS.1 0
    go_wp2_with fail
    go_ret
    have hu : Upd r w (W7.setCell ⟨r, 0, none⟩ (.slice A7 (m + 1) c7)) := (Upd.of hB).put 0 _
    have own8 : OwnD (W7.setCell ⟨r, 0, none⟩ (.slice A7 (m + 1) c7)) (w.heap.size + 1) (.slice A7 (m + 1) c7) (ts ++ [(H0, n)]) := OwnG.keep O7 fun k _ hk _ => Below.heap_setCell _ _ _ _ (by simp; omega)
    have hok2 : OkT (ts ++ [(H0, n)]) := fun t ht => by
      rcases List.mem_append.1 ht with ht | ht
      · exact hok t ht
      · rw [List.mem_singleton.1 ht]; exact hh
    exact ⟨rfl, _, by simpa using hS.1.put 0 (.slice A7 (m + 1) c7), own8.rd hok2, hu, fun k hk => ⟨Nat.le_of_succ_le (OwnG.lt own8 hk).1, (OwnG.lt own8 hk).2⟩⟩
set_option maxRecDepth 100000 in
set_option maxHeartbeats 3200000 in
theorem radd_next (r : Nat) (ts : List Tr) (H0 : List UInt8) (hh : H0.length = 32) (n : UInt32) (w : World) (hp : RefP w r ts) (hok : OkT ts) (h64 : ts.length < 64) (h0 : 0 < ts.length) (hn : n = (nthT ts (ts.length - 1)).2 + 1) :
    Calls Tryd.prog 59 #[.pointer (some ⟨r, 0, none⟩), .agg (trC H0 n)] w (RAdd r 0 (ts ++ [(H0, n)]) w) := by
  obtain ⟨v, h1, hrd⟩ := hp
  obtain ⟨A, c, rfl, -, hel⟩ := id hrd
  obtain ⟨g, o, rfl, hg, hel⟩ := hel h0
  have hnum := tr_num (hel (ts.length - 1) (by omega)) (nthT_ok hok (by omega))
  obtain ⟨y, hy⟩ : ∃ y, y = (nthT ts (ts.length - 1)).2 := ⟨_, rfl⟩
  rw [← hy] at hnum hn
  obtain ⟨m, hm⟩ : ∃ m, m = ts.length := ⟨_, rfl⟩
  have HM := Lib.hid hm
  rw [← hm] at h1 h0 hrd hnum h64
  have hc := pcell h1
  have hpl := h1.lt
  have hB : Below w.heap.size w (w.alloc (.cells (trC H0 n) 66)) := (by repeat (first | with_reducible exact Below.refl _ _ | with_reducible assumption | refine Below.drew ?_ | refine below_drewN ?_ | refine Below.alloc ?_ (by first | omega | (simp; done) | (simp; omega)) _ | refine below_setRow ?_ (by omega) _ | refine Below.setCell ?_ (by first | omega | (simp; done) | (simp; omega)) _))
  have RB : RowIs (w.alloc (.cells (trC H0 n) 66)) w.heap.size (trC H0 n) := RowIs.new _ _ _
  have f1 := (hB.cell (p := ⟨r, 0, none⟩) hpl).trans hc
  have f2 := (hB.cell (p := ⟨g, o + (m - 1) * 33 + 32, none⟩) hg).trans hnum
  have f3 := TrRow.num (w := w.alloc (.cells (trC H0 n) 66)) (b := w.heap.size) RB hh
  replace h1 := h1.step hB
  replace hrd := hrd.step hB
  have i1 : ¬ (64 : Int) ≤ m := by omega
  have i2 : (0 : Int) < m := by omega
  have hsub : (m : Int) - 1 = ((m - 1 : Nat) : Int) := by omega
  have hi3 : (((m - 1 : Nat) : Int)) < m := by omega
  have hwr : IntKind.u32.wrap (n32 y + 1) = n32 n := by rw [hn, n32_def, n32_def, UInt32.toNat_add, wrap_u32]; simp
  have hne : ((n32 n : Int) != n32 n) = false := by simp
  have hm5 : m < 64 := h64
  clear hm h0 hc hel hy hn hnum
  go_enter Tryd.func59, Tryd.ntmps59
  go_wp2_with fail
  obtain ⟨x0, hx⟩ : ∃ x, x = w.alloc (.cells (trC H0 n) 66) := ⟨_, rfl⟩
  rw [← hx] at f1 f2 f3 hB RB h1 hrd ⊢
  clear hx
  refine wp_region_lexS [] [3, 10, 14, 19, 22] (SameC x0) (by kernel_rfl) (by decide +kernel) (fun _ => rfl) (fun _ => ?_)
  (go_wp2_with (first | (refine wpLexS_nil ?_) | (refine wpLexS_pure rfl (fun _ _ => ?_); go_simp; refine ⟨_, fun w9 hw9 => (by have s1 := (hw9 _).trans f1; have s2 := (hw9 _).trans f2; have s3 := (hw9 _).trans f3; go_simp; rfl), ?_⟩) | (refine wpLexS_pure0 rfl (fun _ _ => ?_); go_simp; try go_bits) | (refine wpLexS_read rfl (fun _ _ => ?_); go_simp; try go_bits) | (refine wpLexS_loud rfl (fun KL hKL => ?_))))
  clear f2 f3
  have hd : Below x0.heap.size x0 x0.drew := (by repeat (first | with_reducible exact Below.refl _ _ | with_reducible assumption | refine Below.drew ?_ | refine below_drewN ?_ | refine Below.alloc ?_ (by first | omega | (simp; done) | (simp; omega)) _ | refine below_setRow ?_ (by omega) _ | refine Below.setCell ?_ (by first | omega | (simp; done) | (simp; omega)) _))
  replace h1 := h1.step hd
  replace hrd := hrd.step hd
  replace RB := RB.step hd
  replace hB := hB.trans (hd.mono hB.size)
  generalize x0.drew = x at h1 hrd RB hB ⊢
  clear hd f1
  refine wp_region_FT [] [5, 7] [0, 2, 3, 4, 5, 7, 1, 6, 8, 9, 10, 11] 8 (PastS r w.heap.size (.slice (some ⟨g, o, none⟩) m c) (trC H0 n)) (by kernel_rfl) (by decide +kernel) ⟨h1.drew, RB.drew⟩ (fun hS => ?_)
  have hd : Below x.heap.size x x.drew := (by repeat (first | with_reducible exact Below.refl _ _ | with_reducible assumption | refine Below.drew ?_ | refine below_drewN ?_ | refine Below.alloc ?_ (by first | omega | (simp; done) | (simp; omega)) _ | refine below_setRow ?_ (by omega) _ | refine Below.setCell ?_ (by first | omega | (simp; done) | (simp; omega)) _))
  replace hrd := hrd.step hd
  replace hB := hB.trans (hd.mono hB.size)
  generalize x.drew = W at hrd hS hB ⊢
  clear h1 RB hd
  have hz : w.heap.size + 1 ≤ W.heap.size := hS.2.lt
  (go_wp2_with (first | (refine wpIF_here rfl ?_) | (refine wpIF_pure (by decide) rfl rfl rfl (fun _ _ => ?_); go_simp; refine ⟨_, fun w9 hw9 => (by have s1 := pcell hw9.1; have s2 := rtrload hw9.2 hh; go_simp; rfl), ?_⟩) | (refine wpIF_pure0 (by decide) rfl rfl rfl (fun _ _ => ?_); go_simp; try go_bits)))
  refine wpIF_loud [1, 6, 9, 10, 11] rfl (by decide) rfl rfl rfl (fun KL hKL => ?_) (fun KL hKL => ?_)
  · go_wp2_with fail
    have hq : Below W.heap.size W (W.alloc (.cells #[] 66)) := (by repeat (first | with_reducible exact Below.refl _ _ | with_reducible assumption | refine Below.drew ?_ | refine below_drewN ?_ | refine Below.alloc ?_ (by first | omega | (simp; done) | (simp; omega)) _ | refine below_setRow ?_ (by omega) _ | refine Below.setCell ?_ (by first | omega | (simp; done) | (simp; omega)) _))
    have O1 : OwnD (W.alloc (.cells #[] 66)) (w.heap.size + 1) (.slice (some ⟨W.heap.size, 0, none⟩) 0 0) [] := OwnG.new _ 33 _ W (w.heap.size + 1) [] 0 (by simp) (by simp) hz (by simp [maxLen]) rfl
    replace hrd := hrd.step hq
    replace hB := hB.trans (hq.mono hB.size)
    replace hS : PastS r w.heap.size (.slice (some ⟨g, o, none⟩) m c) (trC H0 n) (W.alloc (.cells #[] 66)) := ⟨hS.1.step hq, hS.2.step hq⟩
    replace hz := Nat.le_trans hz hq.size
    obtain ⟨e0, he0⟩ : ∃ e, e = W.heap.size := ⟨_, rfl⟩
    have hez : e0 < (W.alloc (.cells #[] 66)).heap.size := by rw [he0]; simp
    rw [← he0] at O1 ⊢
    refine hKL _ _ hS (fun _ => ?_)
    clear hq he0
    generalize W.alloc (.cells #[] 66) = W at *
    (go_wp2_with (first | (refine wpIF_here rfl ?_) | (refine wpIF_pure (by decide) rfl rfl rfl (fun _ _ => ?_); go_simp; refine ⟨_, fun w9 hw9 => (by have s1 := pcell hw9.1; have s2 := rtrload hw9.2 hh; go_simp; rfl), ?_⟩) | (refine wpIF_pure0 (by decide) rfl rfl rfl (fun _ _ => ?_); go_simp; try go_bits)))
    refine wpIF_loud [6, 9, 10, 11] rfl (by decide) rfl rfl rfl (fun KL hKL => ?_) (fun KL hKL => ?_)
    · obtain ⟨A', c', e, hsrc⟩ := hrd.src hok
      injection e with e1 e2 e3
      subst e1; subst e3; clear e2
      refine wpList_wanted (by rfl) (fun K1 hK1 => ?_)
      refine wp_appendD (N := m) (.tmp 37) (.tmp 41) rfl rfl O1 rfl HM.out hsrc hok (by simp) (by omega) hz ?_
      intro A5 c5 W5 O5 gr5
      rw [List.nil_append] at O5
      have bel5 := OwnG.below O1 gr5 hz
      refine hK1 _ _ ?_
      go_wp2_with fail
      replace hS : PastS r w.heap.size (.slice (some ⟨g, o, none⟩) m c) (trC H0 n) W5 := ⟨hS.1.below bel5 (by omega), hS.2.below bel5 (by omega)⟩
      replace hB := hB.trans (bel5.mono (by omega))
      replace hz := Nat.le_trans hz bel5.size
      refine hKL _ _ hS (fun _ => ?_)
      clear hrd hsrc O1 gr5 bel5
      obtain ⟨W, hW⟩ : ∃ W, W = W5 := ⟨_, rfl⟩
      subst hW
      (go_wp2_with (first | (refine wpIF_here rfl ?_) | (refine wpIF_pure (by decide) rfl rfl rfl (fun _ _ => ?_); go_simp; refine ⟨_, fun w9 hw9 => (by have s1 := pcell hw9.1; have s2 := rtrload hw9.2 hh; go_simp; rfl), ?_⟩) | (refine wpIF_pure0 (by decide) rfl rfl rfl (fun _ _ => ?_); go_simp; try go_bits)))
      (go_wp2_with (first | (refine wpI_pure rfl rfl (fun _ _ => ?_); go_simp; refine ⟨_, fun w9 hw9 => (by have s1 := pcell hw9.1; have s2 := rtrload hw9.2 hh; go_simp; rfl), ?_⟩) | (refine wpI_pure0 rfl rfl (fun _ _ => ?_); go_simp; try go_bits)))
      refine wpI_loud rfl rfl (fun KL hKL => ?_)
      go_wp2_with fail
      have hq : Below W.heap.size W (W.alloc (.cells (trC H0 n) 66)) := (by repeat (first | with_reducible exact Below.refl _ _ | with_reducible assumption | refine Below.drew ?_ | refine below_drewN ?_ | refine Below.alloc ?_ (by first | omega | (simp; done) | (simp; omega)) _ | refine below_setRow ?_ (by omega) _ | refine Below.setCell ?_ (by first | omega | (simp; done) | (simp; omega)) _))
      have RN : RowIs (W.alloc (.cells (trC H0 n) 66)) W.heap.size (trC H0 n) := RowIs.new _ _ _
      replace O5 : OwnD (W.alloc (.cells (trC H0 n) 66)) (w.heap.size + 1) (.slice A5 m c5) ts := OwnG.step O5 hq
      replace hB := hB.trans (hq.mono hB.size)
      replace hS : PastS r w.heap.size (.slice (some ⟨g, o, none⟩) m c) (trC H0 n) (W.alloc (.cells (trC H0 n) 66)) := ⟨hS.1.step hq, hS.2.step hq⟩
      replace hz := Nat.le_trans hz hq.size
      obtain ⟨b8, hb8⟩ : ∃ e, e = W.heap.size := ⟨_, rfl⟩
      have hb8z : b8 < (W.alloc (.cells (trC H0 n) 66)).heap.size := by rw [hb8]; simp
      rw [← hb8] at RN ⊢
      refine hKL _ _ hS (fun _ => ?_)
      clear hq hb8
      generalize W.alloc (.cells (trC H0 n) 66) = W at *
      (go_wp2_with (first | (refine wpI_pure rfl rfl (fun _ _ => ?_); go_simp; refine ⟨_, fun w9 hw9 => (by have s1 := pcell hw9.1; have s2 := rtrload hw9.2 hh; go_simp; rfl), ?_⟩) | (refine wpI_pure0 rfl rfl (fun _ _ => ?_); go_simp; try go_bits)))
      refine wpI_loud rfl rfl (fun KL hKL => ?_)
      refine wpList_wanted (by rfl) (fun K1 hK1 => ?_)
      refine wp_appendD (N := m + 1) (us := [(H0, n)]) (.tmp 42) (.tmp 44) rfl rfl O5 rfl rfl (srcOne RN) (fun t ht => by rw [List.mem_singleton.1 ht]; exact hh) (by rw [HM.out]) (by omega) hz ?_
      intro A7 c7 W7 O7 gr7
      have bel7 := OwnG.below O5 gr7 hz
      refine hK1 _ _ ?_
      go_wp2_with fail
      replace hS : PastS r w.heap.size (.slice (some ⟨g, o, none⟩) m c) (trC H0 n) W7 := ⟨hS.1.below bel7 (by omega), hS.2.below bel7 (by omega)⟩
      replace hB := hB.trans (bel7.mono (by omega))
      refine hKL _ _ hS (fun _ => ?_)
      clear RN O5 gr7 bel7
      (go_wp2_with (first | (refine wpI_pure rfl rfl (fun _ _ => ?_); go_simp; refine ⟨_, fun w9 hw9 => (by have s1 := pcell hw9.1; have s2 := rtrload hw9.2 hh; go_simp; rfl), ?_⟩) | (refine wpI_pure0 rfl rfl (fun _ _ => ?_); go_simp; try go_bits)))
      refine wpI_nil ?_
      refine lastOp_of rfl (fun KL hKL => ?_)
      have cp := pcell hS.1
      have fp := RowIs.fz hS.1 0
      go_wp2_with fail
      go_ret
      have hu : Upd r w (W7.setCell ⟨r, 0, none⟩ (.slice A7 (m + 1) c7)) := (Upd.of hB).put 0 _
      have own8 : OwnD (W7.setCell ⟨r, 0, none⟩ (.slice A7 (m + 1) c7)) (w.heap.size + 1) (.slice A7 (m + 1) c7) (ts ++ [(H0, n)]) := OwnG.keep O7 fun k _ hk _ => Below.heap_setCell _ _ _ _ (by simp; omega)
      have hok2 : OkT (ts ++ [(H0, n)]) := fun t ht => by
        rcases List.mem_append.1 ht with ht | ht
        · exact hok t ht
        · rw [List.mem_singleton.1 ht]; exact hh
      exact ⟨rfl, _, by simpa using hS.1.put 0 (.slice A7 (m + 1) c7), own8.rd hok2, hu, fun k hk => ⟨Nat.le_of_succ_le (OwnG.lt own8 hk).1, (OwnG.lt own8 hk).2⟩⟩
    · go_wp2_with fail
      have hq : Below W.heap.size W (W.alloc (.cells (trC H0 n) 66)) := (by repeat (first | with_reducible exact Below.refl _ _ | with_reducible assumption | refine Below.drew ?_ | refine below_drewN ?_ | refine Below.alloc ?_ (by first | omega | (simp; done) | (simp; omega)) _ | refine below_setRow ?_ (by omega) _ | refine Below.setCell ?_ (by first | omega | (simp; done) | (simp; omega)) _))
      have RN : RowIs (W.alloc (.cells (trC H0 n) 66)) W.heap.size (trC H0 n) := RowIs.new _ _ _
      replace O1 : OwnD (W.alloc (.cells (trC H0 n) 66)) (w.heap.size + 1) (.slice (some ⟨e0, 0, none⟩) 0 0) [] := OwnG.step O1 hq
      replace hrd := hrd.step hq
      replace hB := hB.trans (hq.mono hB.size)
      replace hS : PastS r w.heap.size (.slice (some ⟨g, o, none⟩) m c) (trC H0 n) (W.alloc (.cells (trC H0 n) 66)) := ⟨hS.1.step hq, hS.2.step hq⟩
      replace hz := Nat.le_trans hz hq.size
      obtain ⟨b8, hb8⟩ : ∃ e, e = W.heap.size := ⟨_, rfl⟩
      have hb8z : b8 < (W.alloc (.cells (trC H0 n) 66)).heap.size := by rw [hb8]; simp
      have hne : e0 ≠ b8 := by omega
      rw [← hb8] at RN ⊢
      refine hKL _ _ hS (fun _ => ?_)
      clear hq hb8
      generalize W.alloc (.cells (trC H0 n) 66) = W at *
      (go_wp2_with (first | (refine wpI_pure rfl rfl (fun _ _ => ?_); go_simp; refine ⟨_, fun w9 hw9 => (by have s1 := pcell hw9.1; have s2 := rtrload hw9.2 hh; go_simp; rfl), ?_⟩) | (refine wpI_pure0 rfl rfl (fun _ _ => ?_); go_simp; try go_bits)))
      refine wpI_loud rfl rfl (fun KL hKL => ?_)
      obtain ⟨A', c', e, hsrc⟩ := hrd.src hok
      injection e with e1 e2 e3
      subst e1; subst e3; clear e2
      refine wpList_wanted (by rfl) (fun K1 hK1 => ?_)
      refine wp_appendD (N := m) (.tmp 37) (.tmp 41) rfl rfl O1 rfl HM.out hsrc hok (by simp) (by omega) hz ?_
      intro A5 c5 W5 O5 gr5
      rw [List.nil_append] at O5
      have bel5 := OwnG.below O1 gr5 hz
      refine hK1 _ _ ?_
      go_wp2_with fail
      replace RN := RN.grown gr5 (fun e => hne (Option.some.inj e))
      replace hS : PastS r w.heap.size (.slice (some ⟨g, o, none⟩) m c) (trC H0 n) W5 := ⟨hS.1.below bel5 (by omega), hS.2.below bel5 (by omega)⟩
      replace hB := hB.trans (bel5.mono (by omega))
      replace hz := Nat.le_trans hz bel5.size
      refine hKL _ _ hS (fun _ => ?_)
      clear hrd hsrc O1 gr5 bel5
      obtain ⟨W, hW⟩ : ∃ W, W = W5 := ⟨_, rfl⟩
      subst hW
      (go_wp2_with (first | (refine wpI_pure rfl rfl (fun _ _ => ?_); go_simp; refine ⟨_, fun w9 hw9 => (by have s1 := pcell hw9.1; have s2 := rtrload hw9.2 hh; go_simp; rfl), ?_⟩) | (refine wpI_pure0 rfl rfl (fun _ _ => ?_); go_simp; try go_bits)))
      refine wpI_loud rfl rfl (fun KL hKL => ?_)
      refine wpList_wanted (by rfl) (fun K1 hK1 => ?_)
      refine wp_appendD (N := m + 1) (us := [(H0, n)]) (.tmp 42) (.tmp 44) rfl rfl O5 rfl rfl (srcOne RN) (fun t ht => by rw [List.mem_singleton.1 ht]; exact hh) (by rw [HM.out]) (by omega) hz ?_
      intro A7 c7 W7 O7 gr7
      have bel7 := OwnG.below O5 gr7 hz
      refine hK1 _ _ ?_
      go_wp2_with fail
      replace hS : PastS r w.heap.size (.slice (some ⟨g, o, none⟩) m c) (trC H0 n) W7 := ⟨hS.1.below bel7 (by omega), hS.2.below bel7 (by omega)⟩
      replace hB := hB.trans (bel7.mono (by omega))
      refine hKL _ _ hS (fun _ => ?_)
      clear RN O5 gr7 bel7
      (go_wp2_with (first | (refine wpI_pure rfl rfl (fun _ _ => ?_); go_simp; refine ⟨_, fun w9 hw9 => (by have s1 := pcell hw9.1; have s2 := rtrload hw9.2 hh; go_simp; rfl), ?_⟩) | (refine wpI_pure0 rfl rfl (fun _ _ => ?_); go_simp; try go_bits)))
      refine wpI_nil ?_
      refine lastOp_of rfl (fun KL hKL => ?_)
      have cp := pcell hS.1
      have fp := RowIs.fz hS.1 0
      go_wp2_with fail
      go_ret
      have hu : Upd r w (W7.setCell ⟨r, 0, none⟩ (.slice A7 (m + 1) c7)) := (Upd.of hB).put 0 _
      have own8 : OwnD (W7.setCell ⟨r, 0, none⟩ (.slice A7 (m + 1) c7)) (w.heap.size + 1) (.slice A7 (m + 1) c7) (ts ++ [(H0, n)]) := OwnG.keep O7 fun k _ hk _ => Below.heap_setCell _ _ _ _ (by simp; omega)
      have hok2 : OkT (ts ++ [(H0, n)]) := fun t ht => by
        rcases List.mem_append.1 ht with ht | ht
        · exact hok t ht
        · rw [List.mem_singleton.1 ht]; exact hh
      exact ⟨rfl, _, by simpa using hS.1.put 0 (.slice A7 (m + 1) c7), own8.rd hok2, hu, fun k hk => ⟨Nat.le_of_succ_le (OwnG.lt own8 hk).1, (OwnG.lt own8 hk).2⟩⟩
  · go_wp2_with fail
    have hq : Below W.heap.size W (W.alloc (.cells (trC H0 n) 66)) := (by repeat (first | with_reducible exact Below.refl _ _ | with_reducible assumption | refine Below.drew ?_ | refine below_drewN ?_ | refine Below.alloc ?_ (by first | omega | (simp; done) | (simp; omega)) _ | refine below_setRow ?_ (by omega) _ | refine Below.setCell ?_ (by first | omega | (simp; done) | (simp; omega)) _))
    have RN : RowIs (W.alloc (.cells (trC H0 n) 66)) W.heap.size (trC H0 n) := RowIs.new _ _ _
    replace hrd := hrd.step hq
    replace hB := hB.trans (hq.mono hB.size)
    replace hS : PastS r w.heap.size (.slice (some ⟨g, o, none⟩) m c) (trC H0 n) (W.alloc (.cells (trC H0 n) 66)) := ⟨hS.1.step hq, hS.2.step hq⟩
    replace hz := Nat.le_trans hz hq.size
    obtain ⟨b8, hb8⟩ : ∃ e, e = W.heap.size := ⟨_, rfl⟩
    have hb8z : b8 < (W.alloc (.cells (trC H0 n) 66)).heap.size := by rw [hb8]; simp
    rw [← hb8] at RN ⊢
    refine hKL _ _ hS (fun _ => ?_)
    clear hq hb8
    generalize W.alloc (.cells (trC H0 n) 66) = W at *
    (go_wp2_with (first | (refine wpI_pure rfl rfl (fun _ _ => ?_); go_simp; refine ⟨_, fun w9 hw9 => (by have s1 := pcell hw9.1; have s2 := rtrload hw9.2 hh; go_simp; rfl), ?_⟩) | (refine wpI_pure0 rfl rfl (fun _ _ => ?_); go_simp; try go_bits)))
    refine wpI_loud rfl rfl (fun KL hKL => ?_)
    go_wp2_with fail
    have hq : Below W.heap.size W (W.alloc (.cells #[] 66)) := (by repeat (first | with_reducible exact Below.refl _ _ | with_reducible assumption | refine Below.drew ?_ | refine below_drewN ?_ | refine Below.alloc ?_ (by first | omega | (simp; done) | (simp; omega)) _ | refine below_setRow ?_ (by omega) _ | refine Below.setCell ?_ (by first | omega | (simp; done) | (simp; omega)) _))
    have O1 : OwnD (W.alloc (.cells #[] 66)) (w.heap.size + 1) (.slice (some ⟨W.heap.size, 0, none⟩) 0 0) [] := OwnG.new _ 33 _ W (w.heap.size + 1) [] 0 (by simp) (by simp) hz (by simp [maxLen]) rfl
    replace RN := RN.step hq
    replace hrd := hrd.step hq
    replace hB := hB.trans (hq.mono hB.size)
    replace hS : PastS r w.heap.size (.slice (some ⟨g, o, none⟩) m c) (trC H0 n) (W.alloc (.cells #[] 66)) := ⟨hS.1.step hq, hS.2.step hq⟩
    replace hz := Nat.le_trans hz hq.size
    obtain ⟨e0, he0⟩ : ∃ e, e = W.heap.size := ⟨_, rfl⟩
    have hez : e0 < (W.alloc (.cells #[] 66)).heap.size := by rw [he0]; simp
    have hne : e0 ≠ b8 := by omega
    rw [← he0] at O1 ⊢
    refine hKL _ _ hS (fun _ => ?_)
    clear hq he0
    generalize W.alloc (.cells #[] 66) = W at *
    (go_wp2_with (first | (refine wpI_pure rfl rfl (fun _ _ => ?_); go_simp; refine ⟨_, fun w9 hw9 => (by have s1 := pcell hw9.1; have s2 := rtrload hw9.2 hh; go_simp; rfl), ?_⟩) | (refine wpI_pure0 rfl rfl (fun _ _ => ?_); go_simp; try go_bits)))
    refine wpI_loud rfl rfl (fun KL hKL => ?_)
    obtain ⟨A', c', e, hsrc⟩ := hrd.src hok
    injection e with e1 e2 e3
    subst e1; subst e3; clear e2
    refine wpList_wanted (by rfl) (fun K1 hK1 => ?_)
    refine wp_appendD (N := m) (.tmp 37) (.tmp 41) rfl rfl O1 rfl HM.out hsrc hok (by simp) (by omega) hz ?_
    intro A5 c5 W5 O5 gr5
    rw [List.nil_append] at O5
    have bel5 := OwnG.below O1 gr5 hz
    refine hK1 _ _ ?_
    go_wp2_with fail
    replace RN := RN.grown gr5 (fun e => hne (Option.some.inj e))
    replace hS : PastS r w.heap.size (.slice (some ⟨g, o, none⟩) m c) (trC H0 n) W5 := ⟨hS.1.below bel5 (by omega), hS.2.below bel5 (by omega)⟩
    replace hB := hB.trans (bel5.mono (by omega))
    replace hz := Nat.le_trans hz bel5.size
    refine hKL _ _ hS (fun _ => ?_)
    clear hrd hsrc O1 gr5 bel5
    obtain ⟨W, hW⟩ : ∃ W, W = W5 := ⟨_, rfl⟩
    subst hW
    (go_wp2_with (first | (refine wpI_pure rfl rfl (fun _ _ => ?_); go_simp; refine ⟨_, fun w9 hw9 => (by have s1 := pcell hw9.1; have s2 := rtrload hw9.2 hh; go_simp; rfl), ?_⟩) | (refine wpI_pure0 rfl rfl (fun _ _ => ?_); go_simp; try go_bits)))
    refine wpI_loud rfl rfl (fun KL hKL => ?_)
    refine wpList_wanted (by rfl) (fun K1 hK1 => ?_)
    refine wp_appendD (N := m + 1) (us := [(H0, n)]) (.tmp 42) (.tmp 44) rfl rfl O5 rfl rfl (srcOne RN) (fun t ht => by rw [List.mem_singleton.1 ht]; exact hh) (by rw [HM.out]) (by omega) hz ?_
    intro A7 c7 W7 O7 gr7
    have bel7 := OwnG.below O5 gr7 hz
    refine hK1 _ _ ?_
    go_wp2_with fail
    replace hS : PastS r w.heap.size (.slice (some ⟨g, o, none⟩) m c) (trC H0 n) W7 := ⟨hS.1.below bel7 (by omega), hS.2.below bel7 (by omega)⟩
    replace hB := hB.trans (bel7.mono (by omega))
    refine hKL _ _ hS (fun _ => ?_)
    clear RN O5 gr7 bel7
    (go_wp2_with (first | (refine wpI_pure rfl rfl (fun _ _ => ?_); go_simp; refine ⟨_, fun w9 hw9 => (by have s1 := pcell hw9.1; have s2 := rtrload hw9.2 hh; go_simp; rfl), ?_⟩) | (refine wpI_pure0 rfl rfl (fun _ _ => ?_); go_simp; try go_bits)))
    refine wpI_nil ?_
    refine lastOp_of rfl (fun KL hKL => ?_)
    have cp := pcell hS.1
    have fp := RowIs.fz hS.1 0
    go_wp2_with fail
    go_ret
    have hu : Upd r w (W7.setCell ⟨r, 0, none⟩ (.slice A7 (m + 1) c7)) := (Upd.of hB).put 0 _
    have own8 : OwnD (W7.setCell ⟨r, 0, none⟩ (.slice A7 (m + 1) c7)) (w.heap.size + 1) (.slice A7 (m + 1) c7) (ts ++ [(H0, n)]) := OwnG.keep O7 fun k _ hk _ => Below.heap_setCell _ _ _ _ (by simp; omega)
    have hok2 : OkT (ts ++ [(H0, n)]) := fun t ht => by
      rcases List.mem_append.1 ht with ht | ht
      · exact hok t ht
      · rw [List.mem_singleton.1 ht]; exact hh
    exact ⟨rfl, _, by simpa using hS.1.put 0 (.slice A7 (m + 1) c7), own8.rd hok2, hu, fun k hk => ⟨Nat.le_of_succ_le (OwnG.lt own8 hk).1, (OwnG.lt own8 hk).2⟩⟩
end
section
open Go.RowKit
set_option maxRecDepth 100000 in
set_option maxHeartbeats 1600000 in
theorem rfind_any (r : Nat) (ts : List Tr) (hok : OkT ts) (n : UInt32) (w : World) (hp : RefP w r ts) (hl : ts.length ≤ 1000) :
    Calls Tryd.prog 60 #[.pointer (some ⟨r, 0, none⟩), .int .u32 (n32 n)] w (FindRes ts n w) := by
  obtain ⟨v, h1, A, c, rfl, -, hrd⟩ := hp
  obtain ⟨m, hm⟩ : ∃ m, m = ts.length := ⟨_, rfl⟩
  have HM := Lib.hid hm
  have HRD := Lib.hid hrd
  rw [← hm] at h1 hl
  clear hm hrd
  have hc := pcell h1
  have hpl := h1.lt
  have hB : Below w.heap.size w (w.alloc (.cells (u8s (zeros 32)) 33)) := (by repeat (first | with_reducible exact Below.refl _ _ | with_reducible assumption | refine Below.drew ?_ | refine below_drewN ?_ | refine Below.alloc ?_ (by first | omega | (simp; done) | (simp; omega)) _ | refine below_setRow ?_ (by omega) _ | refine Below.setCell ?_ (by first | omega | (simp; done) | (simp; omega)) _))
  have f1 := (hB.cell (p := ⟨r, 0, none⟩) hpl).trans hc
  have RK : RowIs (w.alloc (.cells (u8s (zeros 32)) 33)) w.heap.size (u8s (zeros 32)) := RowIs.new _ _ _
  clear hc h1
  go_enter Tryd.func60, Tryd.ntmps60
  go_wp2_with fail
  generalize w.alloc (.cells (u8s (zeros 32)) 33) = W at *
  go_loop [6] (fun i => ∃ k : Nat, i = .int .i64 k ∧ k ≤ m ∧ ∀ j, j < k → (nthT ts j).2 ≠ n) (fun i => m - (intOf i).toNat)
  case atStart => exact ⟨0, rfl, by omega, fun j hj => absurd hj (by omega)⟩
  case round =>
    obtain ⟨k, rfl, hk, hall⟩ := hrel
    have HALL := Lib.hid hall
    clear hall
    have hr1 := RK.has; have hr2 := RK.row; have hr3 := RK.lt
    by_cases hlt : k < m
    · have hlt' : k < ts.length := by rw [← HM.out]; exact hlt
      obtain ⟨g, o, rfl, hg, hel⟩ := HRD.out (by omega)
      have hh := nthT_ok hok hlt'
      obtain ⟨hd0, hhd⟩ : ∃ x, x = (nthT ts k).1 := ⟨_, rfl⟩
      obtain ⟨y, hy⟩ : ∃ x, x = (nthT ts k).2 := ⟨_, rfl⟩
      have hel := hel k hlt'
      rw [← hhd, ← hy] at hel
      rw [← hhd] at hh
      have HY := Lib.hid hy; have HHD := Lib.hid hhd
      have hel2 : W.rangeAt g (o + k * 33) (trL hd0 y) := fun j u hu => (hB.cell (p := ⟨g, o + k * 33 + j, none⟩) hg).trans (hel j u hu)
      have hnum := tr_num hel2 hh
      have hL := thead_at hel2 hh
      have hk0 : (0 : Int) ≤ (k : Int) := by omega
      have hk1 : (k : Int) < m := by omega
      clear hy hhd hel hel2
      by_cases hyn : y = n
      · subst hyn
        go_wp2_with fail
        refine bodyPost_rowTmpT 4 5 _ w.heap.size 32 rfl rfl (by omega) (by kernel_rfl) (by kernel_rfl) ?_ rfl ?_
        · go_simp
        · go_simp
          exact ⟨.inl ⟨k, hlt', by rw [HHD.out], HY.out.symm, HALL.out⟩, below_setRow hB (Nat.le_refl _) _⟩
      · have hne : ((n32 y : Int) == n32 n) = false := by
          rw [beq_eq_false_iff_ne]
          exact fun e => hyn (n32_inj e)
        have HYN := Lib.hid hyn
        clear hyn
        go_wp2_with fail
        go_round
        case rel => exact ⟨k + 1, by go_num, by omega, fun j hj => by
          rcases Nat.lt_or_ge j k with hjk | hjk
          · exact HALL.out j hjk
          · obtain rfl : j = k := by omega
            rw [← HY.out]; exact HYN.out⟩
        case measure => simp [intOf]; omega
    · have ek : k = m := by omega
      subst ek
      go_wp2_with fail
      refine bodyPost_rowTmpT 4 5 _ w.heap.size 32 rfl rfl (by omega) (by kernel_rfl) (by kernel_rfl) ?_ rfl ?_
      · go_simp
      · go_simp
        exact ⟨.inr ⟨rfl, by rw [← HM.out]; exact HALL.out⟩, below_setRow hB (Nat.le_refl _) _⟩
theorem FindRes.uniq {ts : List Tr} {n : UInt32} {w w1 v v1 : World} {e f : Ending} (h : FindRes ts n w e w1) (k : FindRes ts n v f v1) : e = f := by
  rcases h.1 with ⟨i, hi, rfl, h1, h2⟩ | ⟨rfl, h1⟩ <;> rcases k.1 with ⟨j, hj, rfl, k1, k2⟩ | ⟨rfl, k1⟩
  · rcases Nat.lt_trichotomy i j with h | h | h
    · exact absurd h1 (k2 i h)
    · rw [h]
    · exact absurd k1 (h2 j h)
  · exact absurd h1 (k1 i hi)
  · exact absurd k1 (h1 j hj)
  · rfl
def firstN (ts : List Tr) : UInt32 := match ts with | [] => 0 | t :: _ => t.2
def NumRes (n : UInt32) (w : World) (e : Ending) (w' : World) : Prop := e = .returned (.int .u32 (n32 n)) ∧ w = w'
set_option maxRecDepth 100000 in
theorem rfirst_any (r : Nat) (ts : List Tr) (hok : OkT ts) (w : World) (hp : RefP w r ts) :
    Calls Tryd.prog 66 #[.pointer (some ⟨r, 0, none⟩)] w (NumRes (firstN ts) w) := by
  obtain ⟨v, h1, A, c, rfl, -, hrd⟩ := hp
  have hc := pcell h1
  cases ts with
  | nil =>
    have e : n32 (firstN []) = 0 := by rw [firstN, n32_def]; rfl
    have E := Lib.hid e
    replace hc : w.cell? ⟨r, 0, none⟩ = some (.slice A 0 c) := hc
    clear e h1 hrd hok
    go_enter Tryd.func66, Tryd.ntmps66
    go_wp2_with fail
    go_ret
    exact ⟨by rw [E.out]; rfl, rfl⟩
  | cons t ts =>
    obtain ⟨g, o, rfl, hg, hel⟩ := hrd (by simp)
    have hnum := tr_num (hel 0 (by simp)) (nthT_ok hok (by simp))
    rw [show o + 0 * 33 + 32 = o + 32 by omega, show (nthT (t :: ts) 0).2 = firstN (t :: ts) by rw [nthT_def]; rfl] at hnum
    obtain ⟨y, hy⟩ : ∃ y, y = firstN (t :: ts) := ⟨_, rfl⟩
    rw [← hy] at hnum ⊢
    obtain ⟨q, hq⟩ : ∃ q, q = (t :: ts).length := ⟨_, rfl⟩
    have i0 : ((q : Int) == 0) = false := by simp [hq]; omega
    have i1 : (0 : Int) < q := by simp [hq]
    rw [← hq] at hc
    clear hy hq hel hrd h1 hok
    go_enter Tryd.func66, Tryd.ntmps66
    go_wp2_with fail
    go_ret
    exact ⟨rfl, rfl⟩
set_option maxRecDepth 100000 in
theorem first_any'' (p base : Nat) (ts : List Tr) (hok : OkT ts) (w : World) (hp : PastAt w p base ts) :
    Calls Tryd.prog 64 #[.pointer (some ⟨p, 0, none⟩)] w (NumRes (firstN ts) w) := by
  cases ts with
  | cons t ts =>
    refine (first_any' p base (t :: ts) hok w hp (by simp)).mono ?_
    rintro e w' ⟨rfl, hw⟩
    exact ⟨by rw [show (nthT (t :: ts) 0).2 = firstN (t :: ts) by rw [nthT_def]; rfl], hw.symm⟩
  | nil =>
    obtain ⟨v, h1, h2⟩ := hp
    obtain ⟨A, c, rfl⟩ := h2.slice
    have e : n32 (firstN []) = 0 := by rw [firstN, n32_def]; rfl
    have E := Lib.hid e
    have hc : w.cell? ⟨p, 0, none⟩ = some (.slice A 0 c) := pcell h1
    clear e h1 h2
    go_enter Tryd.func64, Tryd.ntmps64
    go_wp2_with fail
    go_ret
    exact ⟨by rw [E.out]; rfl, rfl⟩
set_option maxRecDepth 100000 in
theorem len_any (p base : Nat) (ts : List Tr) (w : World) (hp : PastAt w p base ts) :
    Calls Tryd.prog 63 #[.pointer (some ⟨p, 0, none⟩)] w fun e w' => e = .returned (.int .i64 ts.length) ∧ w = w' := by
  obtain ⟨v, h1, h2⟩ := hp
  obtain ⟨A, c, rfl⟩ := h2.slice
  have hc := pcell h1
  obtain ⟨q, hq⟩ : ∃ q, q = ts.length := ⟨_, rfl⟩
  rw [← hq] at hc ⊢
  clear h1 h2 hq
  go_enter Tryd.func63, Tryd.ntmps63
  go_wp2_with fail
  go_ret
  exact ⟨rfl, rfl⟩
end
section
open Go.RowKit
theorem xbslT0 (ev : Operand → Value) (d : Option Tmp) (n : Nat) (ps : Array (Nat × Operand)) (ty : TypeId) (p : String) (af : Array Edge) (g : Option (Nat × Bool)) :
    execOp ev ⟨d, .buildSlice 73 n ps, ty, p, af, g⟩ = bsliceK 73 n (ps.map fun x => (x.1, ev x.2)) := exec_bsliceK ev d _ n ps ty p af g
theorem bslT0 (w : World) : (bsliceK 73 0 #[]).run Tryd.prog w = .ok (.value (.slice (some ⟨w.heap.size, 0, none⟩) 0 0)) (w.alloc (.cells #[] 64)) := by
  obtain ⟨i, z, hi, hz, hsz, hby, hzc⟩ := trInfo_parts
  unfold bsliceK
  simp [Instr.buildSlice, run_underlying Tryd.underlying73, sizeOf, typeInfo, hi, newRow, Instr.fill]
  have e : Array.map (fun _ : Nat => (default : Value)) (Array.range 0) = #[] := Array.eq_empty_of_size_eq_zero (by simp)
  exact congrArg (fun cs => w.alloc (.cells cs 64)) e
attribute [local go_sem ↓] xbslT0 xrbslT
attribute [local go_sem] bslT0 rbslT1 rbslT0 trC_size trC_one
def TrailsRes (ts : List Tr) (w : World) (e : Ending) (w' : World) : Prop := ∃ v, e = .returned v ∧ RdTs w' v ts ∧ Below w.heap.size w w'
set_option maxRecDepth 100000 in
theorem cloneT_any (v : Value) (ts : List Tr) (hok : OkT ts) (w : World) (hr : RdTs w v ts) (hl : ts.length ≤ 1000) :
    Calls Tryd.prog 89 #[v] w (TrailsRes ts w) := by
  obtain ⟨A, c, rfl, hnc, hel⟩ := id hr
  obtain ⟨m, hm⟩ : ∃ m, m = ts.length := ⟨_, rfl⟩
  have HM := Lib.hid hm
  cases A with
  | none =>
    have h0 : ts = [] := by
      rcases Nat.eq_zero_or_pos ts.length with h0 | h0
      · exact List.eq_nil_of_length_eq_zero h0
      · obtain ⟨g, o, e, _⟩ := hel h0; cases e
    have H0 := Lib.hid h0
    have hm0 : ts.length = 0 := by rw [h0]; rfl
    rw [hm0]
    have hnil := fun (w : World) => Lib.run_eql_slice_nil (P := Tryd.prog) w 73 64 none 0 c 0 0 Tryd.underlying73
    clear hr h0 hl hm hnc hel hm0
    go_enter Tryd.func89, Tryd.ntmps89
    go_wp2_with fail
    go_ret
    rw [H0.out]
    exact ⟨_, rfl, RdTs.nil _, Below.refl _ _⟩
  | some a =>
    rw [← hm] at hnc hl ⊢
    obtain ⟨i, z, hi, hz, hsz, hby, hzc⟩ := trInfo_parts
    have hb : Below w.heap.size w (w.alloc (.cells #[] 64)) := (by repeat (first | with_reducible exact Below.refl _ _ | with_reducible assumption | refine Below.drew ?_ | refine below_drewN ?_ | refine Below.alloc ?_ (by first | omega | (simp; done) | (simp; omega)) _ | refine below_setRow ?_ (by omega) _ | refine Below.setCell ?_ (by first | omega | (simp; done) | (simp; omega)) _))
    have ho : OwnG 64 33 (fun _ => true) (w.alloc (.cells #[] 64)) w.heap.size (.slice (some ⟨w.heap.size, 0, none⟩) 0 0) 0 [] := OwnG.new _ 33 _ w w.heap.size [] 0 (by simp) (by simp) (Nat.le_refl _) (by simp [maxLen]) rfl
    obtain ⟨A', c', e, hsrc⟩ := (hr.step hb).src hok
    injection e with e1 e2 e3
    subst e1
    have hlen := flatT_length ts hok
    rw [← hm] at hlen
    obtain ⟨fl, hfl⟩ : ∃ fl, fl = flatT ts := ⟨_, rfl⟩
    rw [← hfl] at hlen hsrc
    have h1 : ∀ u ∈ fl, u.oneCell' = true := by rw [hfl]; exact flatT_one
    have HL := Lib.hid hlen; have HF := Lib.hid hfl; have H1 := Lib.hid h1; have HSRC := Lib.hid hsrc
    have HI := Lib.hid hi; have HZ := Lib.hid hz; have HS := Lib.hid hsz; have HBY := Lib.hid hby; have HZC := Lib.hid hzc
    have hnil := fun (w : World) => Lib.run_eql_slice_nil (P := Tryd.prog) w 73 64 (some a) m c 0 0 Tryd.underlying73
    clear hr hm hel e2 e3 hlen hsrc hfl h1 hi hz hsz hby hzc
    go_enter Tryd.func89, Tryd.ntmps89
    go_wp2_with (at_builtin; refine wpList_appendG (s := 33) (p := fun _ => true) Tryd.underlying73 HI.out HZ.out HS.out HBY.out HZC.out (by omega) (by rw [Array.all_eq_true]; intros; rfl) rfl (.tmp 5) (.tmp 6) rfl rfl ho rfl HL.out HSRC.out H1.out (fun _ _ => rfl) (N := m) (by simp) (by simp only [maxLen]; omega) (by omega) (by simp) ?_; intro A5 c5 w5 own5 gr5 ob5)
    go_ret
    rw [List.nil_append] at own5
    have bel5 := ho.below gr5 (by simp)
    refine ⟨_, rfl, ?_, hb.trans bel5⟩
    obtain ⟨A6, c6, e6, hn6⟩ := own5.slice
    refine ⟨A5, c5, by rw [HM.out]; rfl, by injection e6 with e1 e2 e3; rw [← HM.out]; omega, fun h0 => ?_⟩
    obtain ⟨g, o, c7, e7, _, hg⟩ := own5.addr (by rw [HM.out]; exact h0)
    injection e7 with e1 e2 e3
    refine ⟨g, o, e1, hg, fun i hi j u hu => ?_⟩
    have := own5.range (g := g) (o := o) (m := m) (c := c5) (by rw [e1]) (i * 33 + j) (by rw [HF.out]; exact flatT_get ts hok i hi j u hu)
    rw [← Nat.add_assoc] at this
    exact this
set_option maxRecDepth 100000 in
theorem trails_any (p base : Nat) (ts : List Tr) (hok : OkT ts) (w : World) (hp : PastAt w p base ts) (hl : ts.length ≤ 1000) :
    Calls Tryd.prog 65 #[.pointer (some ⟨p, 0, none⟩)] w (TrailsRes ts w) := by
  obtain ⟨v, h1, h2⟩ := hp
  have CC := Lib.hid (cloneT_any v ts hok w (h2.rd hok) hl)
  obtain ⟨A, c, rfl⟩ := h2.slice
  have hc := pcell h1
  clear h1 h2
  go_enter Tryd.func65, Tryd.ntmps65
  go_wp2_with fail
  refine CC.out.mono ?_
  rintro e w1 ⟨v1, rfl, h1, hb⟩
  go_wp2_with fail
  go_ret
  exact ⟨_, rfl, h1, hb⟩
theorem forgT_drop {n : UInt32} {ts : List Tr} {k : Nat} (hk : k < ts.length) : ts.drop k = nthT ts k :: ts.drop (k + 1) := by
  rw [List.drop_eq_getElem_cons hk, nthT_def, List.getD_eq_getElem?_getD, List.getElem?_eq_getElem hk]; rfl
theorem forgT_keep {n : UInt32} {t : Tr} {r : List Tr} (h : n.toNat ≤ t.2.toNat ∨ r = []) : forgT n (t :: r) = t :: r := by
  cases r with
  | nil => rfl
  | cons u r =>
    rcases h with h | h
    · rw [forgT, if_neg (by omega)]
    · cases h
theorem forgT_lose {n : UInt32} {t : Tr} {r : List Tr} (h : ¬ n.toNat ≤ t.2.toNat) (hr : r ≠ []) : forgT n (t :: r) = forgT n r := by
  cases r with
  | nil => exact absurd rfl hr
  | cons u r => rw [forgT, if_pos (by omega)]
def RForg (r : Nat) (ts : List Tr) (w : World) (e : Ending) (w' : World) : Prop := e = .returned (.tuple #[]) ∧ ∃ u, RowIs w' r #[u] ∧ RdTs w' u ts ∧ Upd r w w' ∧ ∀ k, u.ownBlock = some k → w.heap.size ≤ k ∧ k < w'.heap.size
theorem forgT_ok {n : UInt32} : ∀ {ts : List Tr}, OkT ts → OkT (forgT n ts)
  | [], h => h
  | [t], h => h
  | t :: u :: r, h => by
    rw [forgT]
    split
    · exact forgT_ok (fun x hx => h x (List.mem_cons_of_mem _ hx))
    · exact h
theorem forgT_len {n : UInt32} : ∀ {ts : List Tr}, (forgT n ts).length ≤ ts.length
  | [] => Nat.le_refl _
  | [t] => Nat.le_refl _
  | t :: u :: r => by
    rw [forgT]
    split
    · have := forgT_len (n := n) (ts := u :: r); simp only [List.length_cons] at this ⊢; omega
    · exact Nat.le_refl _
/-- the document's loop: what was kept so far -/
def ForgInv (n : UInt32) (ts : List Tr) (k : Nat) (gone : Bool) (out : List Tr) : Prop := (gone = true ∧ out = [] ∧ forgT n (ts.drop k) = forgT n ts ∧ k < ts.length + 1) ∨ (gone = false ∧ out ++ ts.drop k = forgT n ts)
set_option maxRecDepth 100000 in
set_option maxHeartbeats 1600000 in
theorem rforget_any (r : Nat) (ts : List Tr) (hok : OkT ts) (n : UInt32) (w : World) (hp : RefP w r ts) (hl : ts.length ≤ 1000) :
    Calls Tryd.prog 62 #[.pointer (some ⟨r, 0, none⟩), .int .u32 (n32 n)] w (RForg r (forgT n ts) w) := by
  obtain ⟨v, h1, A, c, rfl, -, hrd⟩ := hp
  obtain ⟨m, hm⟩ : ∃ m, m = ts.length := ⟨_, rfl⟩
  have HM := Lib.hid hm
  have HRD := Lib.hid hrd
  rw [← hm] at h1 hl
  clear hm hrd
  have hpl := h1.lt
  go_enter Tryd.func62, Tryd.ntmps62
  go_wp2_with fail
  go_loopw [4, 5, 6] (fun v g i wr => ∃ (k : Nat) (gone : Bool) (out : List Tr), i = .int .i64 k ∧ g = .bool gone ∧ k ≤ m ∧ OwnD wr w.heap.size v out ∧ OkT out ∧ out.length ≤ k ∧ Below w.heap.size w wr ∧ ForgInv n ts k gone out) (fun _ _ i _ => m - (intOf i).toNat)
  case atStart => exact ⟨0, true, [], rfl, rfl, by omega, OwnG.nil _ _ _ _ _, (fun t ht => by cases ht), Nat.le_refl _, Below.refl _ _, Or.inl ⟨rfl, rfl, rfl, by omega⟩⟩
  case round =>
    obtain ⟨k, gone, out, rfl, rfl, hk, hown, hoo, hol, hB, hinv⟩ := hrel
    have hc := (hB.cell (p := ⟨r, 0, none⟩) hpl).trans (pcell h1)
    have HINV := Lib.hid hinv
    clear hinv
    obtain ⟨Ao, co, rfl, -⟩ := OwnG.slice hown
    by_cases hlt : k < m
    · have hlt' : k < ts.length := by rw [← HM.out]; exact hlt
      obtain ⟨g, o, rfl, hg, hel⟩ := HRD.out (by omega)
      have hh := nthT_ok hok hlt'
      have hel := hel k hlt'
      have hdrop := forgT_drop (n := n) hlt'
      obtain ⟨tk, htk⟩ : ∃ t, t = nthT ts k := ⟨_, rfl⟩
      rw [← htk] at hel hh hdrop
      have hel2 : wr.rangeAt g (o + k * 33) (trL tk.1 tk.2) := fun j u hu => (hB.cell (p := ⟨g, o + k * 33 + j, none⟩) hg).trans (hel j u hu)
      have hnum := tr_num hel2 hh
      have hk0 : (0 : Int) ≤ (k : Int) := by omega
      have hk1 : (k : Int) < m := by omega
      have hsub : (m : Int) - 1 = ((m - 1 : Nat) : Int) := by omega
      have HD := Lib.hid hdrop
      have hnil : ts.drop (k + 1) = [] ↔ k + 1 = m := by rw [List.drop_eq_nil_iff, ← HM.out]; omega
      have HNIL := Lib.hid hnil
      have hsz := hB.size
      have hrld : (loadAgg 66 (.pointer (some ⟨g, o + k * 33, none⟩))).run Tryd.prog wr = .ok (.value (.agg (trC tk.1 tk.2))) wr := by
        have := run_loadAt_mid (P := Tryd.prog) wr g (o + k * 33) 66 (trL tk.1 tk.2) _ hel2 Tryd.underlying66 (by kernel_rfl) (by rw [trL_length _ hh]; kernel_rfl)
        unfold loadAgg
        simp only [Sem.run_bind, this, Result.andThen_ok, Sem.run_pure]
        rw [trC_def]
      clear htk hel hel2 hdrop hnil
      by_cases keep : gone = false ∨ n.toNat ≤ tk.2.toNat ∨ k + 1 = m
      · have hinv2 : ForgInv n ts (k + 1) false (out ++ [tk]) := by
          refine .inr ⟨rfl, ?_⟩
          rcases HINV.out with ⟨hg', ho, hf, _⟩ | ⟨_, hf⟩
          · rw [ho, ← hf, HD.out, forgT_keep (by
              rcases keep with h | h | h
              · rw [h] at hg'; cases hg'
              · exact .inl h
              · exact .inr (HNIL.out.2 h))]
            rfl
          · rw [← hf, HD.out]; simp
        have HI2 := Lib.hid hinv2
        have hoo2 : OkT (out ++ [tk]) := fun t ht => by
          rcases List.mem_append.1 ht with ht | ht
          · exact hoo t ht
          · rw [List.mem_singleton.1 ht]; exact hh
        have HO2 := Lib.hid hoo2
        have hq : Below wr.heap.size wr (wr.alloc (.cells (trC tk.1 tk.2) 66)) := (by repeat (first | with_reducible exact Below.refl _ _ | with_reducible assumption | refine Below.drew ?_ | refine below_drewN ?_ | refine Below.alloc ?_ (by first | omega | (simp; done) | (simp; omega)) _ | refine below_setRow ?_ (by omega) _ | refine Below.setCell ?_ (by first | omega | (simp; done) | (simp; omega)) _))
        have RN : RowIs (wr.alloc (.cells (trC tk.1 tk.2) 66)) wr.heap.size (trC tk.1 tk.2) := RowIs.new _ _ _
        have hown2 := OwnG.step hown hq
        have hB2 := hB.trans (hq.mono hsz)
        have hz2 := hB2.size
        clear hinv2 hoo2 hq
        have fin : ∀ A5 c5 w5, OwnD w5 w.heap.size (.slice A5 (out.length + 1) c5) (out ++ [tk]) → (wr.alloc (.cells (trC tk.1 tk.2) 66)).grownBy w5 (Value.slice Ao out.length co).ownBlock → ∃ (k' : Nat) (gone' : Bool) (out' : List Tr), Value.int .i64 ((k + 1 : Nat) : Int) = .int .i64 k' ∧ Value.bool false = .bool gone' ∧ k' ≤ m ∧ OwnD w5 w.heap.size (.slice A5 (out.length + 1) c5) out' ∧ OkT out' ∧ out'.length ≤ k' ∧ Below w.heap.size w w5 ∧ ForgInv n ts k' gone' out' := fun A5 c5 w5 h1 h2 =>
          ⟨k + 1, false, out ++ [tk], rfl, rfl, by omega, h1, HO2.out, by rw [List.length_append]; simp; omega, hB2.trans (OwnG.below hown2 h2 hz2), HI2.out⟩
        have FIN := Lib.hid fin
        clear fin
        have i0 : ∀ b : Bool, (gone = b) → True := fun _ _ => trivial
        clear i0
        by_cases h1 : n.toNat ≤ tk.2.toNat
        · have i2 : (n32 n : Int) ≤ n32 tk.2 := by rw [n32_def, n32_def]; omega
          clear keep h1
          cases gone
          all_goals
            go_wp2_with (at_builtin; refine wpList_appendD (us := [(tk.1, tk.2)]) rfl (.tmp 38) (.tmp 46) rfl rfl hown2 rfl rfl (srcOne RN) (fun t ht => by rw [List.mem_singleton.1 ht]; exact hh) rfl (by omega) hz2 ?_; intro A5 c5 w5 own5 gr5)
            exact ⟨FIN.out A5 c5 w5 own5 gr5, by simp [intOf]; omega⟩
        · have i2 : ¬ (n32 n : Int) ≤ n32 tk.2 := by rw [n32_def, n32_def]; omega
          by_cases h2 : k + 1 = m
          · have i3 : ((k : Int) == ((m - 1 : Nat) : Int)) = true := by rw [beq_iff_eq]; omega
            clear keep h1 h2
            cases gone
            all_goals
              go_wp2_with (at_builtin; refine wpList_appendD (us := [(tk.1, tk.2)]) rfl (.tmp 38) (.tmp 46) rfl rfl hown2 rfl rfl (srcOne RN) (fun t ht => by rw [List.mem_singleton.1 ht]; exact hh) rfl (by omega) hz2 ?_; intro A5 c5 w5 own5 gr5)
              exact ⟨FIN.out A5 c5 w5 own5 gr5, by simp [intOf]; omega⟩
          · have i3 : ((k : Int) == ((m - 1 : Nat) : Int)) = false := by rw [beq_eq_false_iff_ne]; omega
            have hgf : gone = false := by
              rcases keep with h | h | h
              · exact h
              · exact absurd h h1
              · exact absurd h h2
            subst hgf
            clear keep h1 h2
            go_wp2_with (at_builtin; refine wpList_appendD (us := [(tk.1, tk.2)]) rfl (.tmp 38) (.tmp 46) rfl rfl hown2 rfl rfl (srcOne RN) (fun t ht => by rw [List.mem_singleton.1 ht]; exact hh) rfl (by omega) hz2 ?_; intro A5 c5 w5 own5 gr5)
            exact ⟨FIN.out A5 c5 w5 own5 gr5, by simp [intOf]; omega⟩
      · have hg1 : gone = true := by
          cases gone
          · exact absurd (.inl rfl) keep
          · rfl
        have h1 : ¬ n.toNat ≤ tk.2.toNat := fun h => keep (.inr (.inl h))
        have h2 : ¬ k + 1 = m := fun h => keep (.inr (.inr h))
        subst hg1
        have hinv2 : ForgInv n ts (k + 1) true out := by
          rcases HINV.out with ⟨_, ho, hf, _⟩ | ⟨h, _⟩
          · refine .inl ⟨rfl, ho, ?_, by rw [← HM.out]; omega⟩
            rw [← hf, HD.out, forgT_lose h1 (fun e => h2 (HNIL.out.1 e))]
          · cases h
        have HI2 := Lib.hid hinv2
        have i2 : ¬ (n32 n : Int) ≤ n32 tk.2 := by rw [n32_def, n32_def]; omega
        have i3 : ((k : Int) == ((m - 1 : Nat) : Int)) = false := by rw [beq_eq_false_iff_ne]; omega
        clear keep h1 h2 hinv2
        go_wp2_with fail
        exact ⟨⟨k + 1, true, out, by go_num, rfl, by omega, hown, hoo, by omega, hB, HI2.out⟩, by simp [intOf]; omega⟩
    · have ek : k = m := by omega
      subst ek
      have hout : out = forgT n ts := by
        have hd : ts.drop k = [] := List.drop_eq_nil_iff.2 (by rw [← HM.out]; exact Nat.le_refl _)
        rcases HINV.out with ⟨_, ho, hf, _⟩ | ⟨_, hf⟩
        · rw [ho, ← hf, hd]; rfl
        · rw [← hf, hd, List.append_nil]
      have HO := Lib.hid hout
      have fz := RowIs.fz (h1.below hB hpl) 0
      have R2 := h1.below hB hpl
      clear hout
      go_wp2_with fail
      refine bodyPost_ret (results_none rfl _ _ _) rfl ?_
      refine ⟨rfl, _, by simpa using R2.put 0 (.slice Ao out.length co), ?_, (Upd.of hB).put 0 _, fun k hk => ⟨(OwnG.lt hown hk).1, by simp [World.setCell]; exact (OwnG.lt hown hk).2⟩⟩
      rw [← HO.out]
      exact OwnD.rd (OwnG.keep hown fun k _ hk _ => Below.heap_setCell _ _ _ _ (by simp; omega)) hoo
end
section
open Go.RowKit
def PastK (w : World) (p base : Nat) (ts : List Tr) (K : Nat → Prop) : Prop := ∃ v, RowIs w p #[v] ∧ OwnT w base v ts ∧ ∀ k, v.ownBlock = some k → K k
def ForgK (p base : Nat) (ts : List Tr) (K : Nat → Prop) (w : World) (e : Ending) (w' : World) : Prop := e = .returned (.tuple #[]) ∧ PastK w' p base ts K ∧ OkT ts ∧ Upd p w w'
set_option maxRecDepth 100000 in
set_option maxHeartbeats 1600000 in
theorem forgetK_any (K : Nat → Prop) (p base : Nat) (hpb : p < base) (ts : List Tr) (hok : OkT ts) (n : UInt32) (w : World) (hp : PastK w p base ts K) (hbase : base ≤ w.heap.size) (hl : ts.length ≤ 1000) :
    Calls Tryd.prog 61 #[.pointer (some ⟨p, 0, none⟩), .int .u32 (n32 n)] w (ForgK p base (forgT n ts) K w) := by
  go_enter Tryd.func61, Tryd.ntmps61
  go_wp2_with fail
  go_loopg [] ts.length (fun m wr => ∃ us : List Tr, us.length = m ∧ m ≤ 1000 ∧ PastK wr p base us K ∧ OkT us ∧ forgT n us = forgT n ts ∧ Upd p w wr)
  case atStart => exact ⟨ts, rfl, hl, hp, hok, rfl, Upd.refl p w⟩
  case round =>
    clear hp hok
    obtain ⟨us, hus, hm, ⟨v, h1, h2, hK⟩, hok, hfo, hU⟩ := hrel
    have HF := Lib.hid hfo
    have HU := Lib.hid hus
    obtain ⟨A, c, rfl⟩ := h2.slice
    obtain ⟨q, hq⟩ : ∃ q, q = us.length := ⟨_, rfl⟩
    have HQ := Lib.hid hq
    rw [← hq] at h1 h2 hK
    have hc := pcell h1
    have hf := RowIs.fz h1 0
    have hq6 : q ≤ 1000 := by omega
    clear hfo hus hq
    by_cases h1q : 1 < q
    · have i1 : (1 : Int) < q := by omega
      obtain ⟨t, u, r, rfl⟩ : ∃ t u r, us = t :: u :: r := by
        match us, HQ.out with
        | [], e => simp at e; omega
        | [a], e => simp at e; omega
        | a :: b :: r, _ => exact ⟨a, b, r, rfl⟩
      obtain ⟨-, g, o, rfl, hg, hel⟩ := h2.elem hok (i := 0) (by simp)
      have hh0 := nthT_ok hok (i := 0) (by simp)
      rw [show nthT (t :: u :: r) 0 = t by rw [nthT_def]; rfl] at hel hh0
      have hnum := tr_num hel hh0
      obtain ⟨hqc, htl⟩ := h2.tail hok
      obtain ⟨y, hy⟩ : ∃ y, y = t.2 := ⟨_, rfl⟩
      rw [← hy] at hnum
      rw [show o + 0 * 33 + 32 = o + 32 by omega] at hnum
      have HY := Lib.hid hy
      have hc1 : ¬ c = 1 := by omega
      have hc1' : ¬ (1 : Int) = c := by omega
      have hq0 : (0 : Int) < q := by omega
      have hq1 : (1 : Int) ≤ q := by omega
      clear hy hel
      by_cases hlt : y.toNat < n.toNat
      · have i2 : (n32 y : Int) < n32 n := by rw [n32_def, n32_def]; omega
        have HLT := Lib.hid hlt
        clear hlt
        go_wp2_with fail
        go_roundg (gk - 1)
        case measure => have := HU.out; simp only [List.length_cons] at this; omega
        case rel =>
          refine ⟨u :: r, by have := HU.out; simp only [List.length_cons] at this ⊢; omega, by omega, ⟨_, by simpa using h1.put 0 (.slice (some ⟨g, o + 33, none⟩) (q - 1) (c - 1)), htl.keep fun k hk _ => Below.heap_setCell _ _ _ _ (by simp; omega), fun k hk => hK k hk⟩, fun x hx => hok x (by simp only [List.mem_cons] at hx ⊢; exact .inr hx), ?_, ?_⟩
          · rw [← HF.out, forgT, if_pos (by rw [← HY.out]; exact HLT.out)]
          · exact hU.put 0 _
      · have i2 : ¬ (n32 y : Int) < n32 n := by rw [n32_def, n32_def]; omega
        have HLT := Lib.hid hlt
        clear hlt
        go_wp2_with fail
        refine bodyPost_ret (results_none rfl _ _ _) rfl ?_
        refine ⟨rfl, ?_, ?_, hU⟩
        · rw [← HF.out, forgT, if_neg (by rw [← HY.out]; exact HLT.out)]; exact ⟨_, h1, h2, hK⟩
        · rw [← HF.out, forgT, if_neg (by rw [← HY.out]; exact HLT.out)]; exact hok
    · have i1 : ¬ (1 : Int) < q := by omega
      have hus : forgT n us = us := by
        match us, HQ.out with
        | [], _ => rfl
        | [a], _ => rfl
        | a :: b :: r, e => simp at e; omega
      go_wp2_with fail
      refine bodyPost_ret (results_none rfl _ _ _) rfl ?_
      refine ⟨rfl, ?_, ?_, hU⟩
      · rw [← HF.out, hus]; exact ⟨_, h1, h2, hK⟩
      · rw [← HF.out, hus]; exact hok

/-- the program's past and the document's, apart -/
structure TwoP (w : World) (p r base : Nat) (ts us : List Tr) : Prop where
  bz : base ≤ w.heap.size
  pb : p < base
  rb : r < base
  pr : p ≠ r
  ex : ∃ v u, RowIs w p #[v] ∧ OwnT w base v ts ∧ RowIs w r #[u] ∧ RdTs w u us ∧ (∀ k, u.ownBlock = some k → base ≤ k ∧ k < w.heap.size) ∧ ∀ k, v.ownBlock = some k → u.ownBlock ≠ some k
theorem TwoP.past {w : World} {p r base : Nat} {ts us : List Tr} (h : TwoP w p r base ts us) : PastAt w p base ts := by
  obtain ⟨v, u, h1, h2, h3, h4, h5, h6⟩ := h.ex; exact ⟨v, h1, h2⟩
theorem TwoP.ref {w : World} {p r base : Nat} {ts us : List Tr} (h : TwoP w p r base ts us) : RefP w r us := by
  obtain ⟨v, u, h1, h2, h3, h4, h5, h6⟩ := h.ex; exact ⟨u, h3, h4⟩
theorem TwoP.step {w w' : World} {p r base : Nat} {ts us : List Tr} (h : TwoP w p r base ts us) (hb : Below w.heap.size w w') : TwoP w' p r base ts us := by
  obtain ⟨v, u, h1, h2, h3, h4, h5, h6⟩ := h.ex
  exact ⟨Nat.le_trans h.bz hb.size, h.pb, h.rb, h.pr, v, u, h1.step hb, h2.step hb, h3.step hb, h4.step hb, fun k hk => ⟨(h5 k hk).1, Nat.lt_of_lt_of_le (h5 k hk).2 hb.size⟩, h6⟩
/-- the program's past turned -/
theorem TwoP.updB {w w' : World} {p r base : Nat} {ts ts' us : List Tr} (h : TwoP w p r base ts us) (hp : PastAt w' p base ts') (hu : UpdB p base w w') : TwoP w' p r base ts' us := by
  obtain ⟨v, u, h1, h2, h3, h4, h5, h6⟩ := h.ex
  obtain ⟨v', g1, g2⟩ := hp
  obtain ⟨⟨v2, c2, hn⟩, hrest⟩ := hu.past v (pcell h1)
  have e : v' = v2 := Option.some.inj ((pcell g1).symm.trans c2)
  subst e
  have hpz := h.pb; have hbz := h.bz
  refine ⟨Nat.le_trans h.bz hu.size, h.pb, h.rb, h.pr, v', u, g1, g2, h3.updB hu h.rb h.pr.symm, h4.keep hu.size fun k hk hl => hrest k hl (by have := (h5 k hk).1; omega) (fun e => h6 k e hk), fun k hk => ⟨(h5 k hk).1, Nat.lt_of_lt_of_le (h5 k hk).2 hu.size⟩, fun k hk e => ?_⟩
  rcases hn k hk with hv | hv
  · exact h6 k hv e
  · have := (h5 k e).2; omega
/-- the program's cell turned, its list among what it was -/
theorem TwoP.updK {w w' : World} {p r base : Nat} {ts ts' us : List Tr} (h : TwoP w p r base ts us) (hf : ∀ K : Nat → Prop, PastK w p base ts K → PastK w' p base ts' K) (hu : Upd p w w') : TwoP w' p r base ts' us := by
  obtain ⟨v, u, h1, h2, h3, h4, h5, h6⟩ := h.ex
  obtain ⟨v', g1, g2, g3⟩ := hf (fun k => v.ownBlock = some k) ⟨v, h1, h2, fun k hk => hk⟩
  have hpz := h.pb; have hbz := h.bz
  exact ⟨Nat.le_trans h.bz hu.size, h.pb, h.rb, h.pr, v', u, g1, g2, h3.upd hu h.pr.symm, h4.keep hu.size fun k hk hl => hu.block k hl (by have := (h5 k hk).1; omega), fun k hk => ⟨(h5 k hk).1, Nat.lt_of_lt_of_le (h5 k hk).2 hu.size⟩, fun k hk => h6 k (g3 k hk)⟩
/-- the document's turned, its list a new one -/
theorem TwoP.refU {w w' : World} {p r base : Nat} {ts us us' : List Tr} {u' : Value} (h : TwoP w p r base ts us) (h1 : RowIs w' r #[u']) (h2 : RdTs w' u' us') (hu : Upd r w w') (hn : ∀ k, u'.ownBlock = some k → w.heap.size ≤ k ∧ k < w'.heap.size) : TwoP w' p r base ts us' := by
  obtain ⟨v, u, g1, g2, g3, g4, g5, g6⟩ := h.ex
  have hrz := h.rb; have hbz := h.bz
  exact ⟨Nat.le_trans h.bz hu.size, h.pb, h.rb, h.pr, v, u', g1.upd hu h.pr, g2.upd hu h.rb, h1, h2, fun k hk => ⟨Nat.le_trans hbz (hn k hk).1, (hn k hk).2⟩, fun k hk e => by have := (hn k e).1; have := (g2.lt hk).2; omega⟩
end
section
open Go.RowKit
def TwoOut (c : Int) (p r base B : Nat) (ts us : List Tr) (w : World) (e : Ending) (w' : World) : Prop := e = .returned (.int .i64 c) ∧ TwoP w' p r base ts us ∧ Below B w w' ∧ ∀ b cs, RowIs w b cs → b ≠ p → b ≠ r → (∀ v, w.cell? ⟨p, 0, none⟩ = some v → v.ownBlock ≠ some b) → RowIs w' b cs
theorem TwoP.off {w : World} {p r base : Nat} {ts us : List Tr} (h : TwoP w p r base ts us) {v : Value} (hv : w.cell? ⟨p, 0, none⟩ = some v) {k : Nat} (hk : v.ownBlock = some k) : k < w.heap.size := by
  obtain ⟨v', u, h1, h2, _⟩ := h.ex
  have e : v' = v := Option.some.inj ((pcell h1).symm.trans hv)
  subst e
  exact (h2.lt hk).2
theorem upd_below {g B : Nat} {w w' : World} (h : Upd g w w') (hg : B ≤ g) (hB : B ≤ w.heap.size) : Below B w w' := ⟨h.os, h.tape, h.output, h.size, fun k hk => h.block k (by omega) (by omega)⟩
theorem add_both (ts : List Tr) (hok : OkT ts) (hl : ts.length ≤ 64) (h : List UInt8) (hh : h.length = 32) (n : UInt32) : ∃ c ts', OkT ts' ∧ ts'.length ≤ 64 ∧
    (∀ (p r base B : Nat) (us : List Tr) (w : World), B ≤ p → B ≤ r → TwoP w p r base ts us → Calls Tryd.prog 47 #[.pointer (some ⟨p, 0, none⟩), .agg (trC h n)] w (TwoOut c p r base B ts' us w)) ∧
    (∀ (p r base B : Nat) (us : List Tr) (w : World), B ≤ p → B ≤ r → TwoP w p r base us ts → Calls Tryd.prog 59 #[.pointer (some ⟨r, 0, none⟩), .agg (trC h n)] w (TwoOut c p r base B us ts' w)) := by
  have hok2 : OkT (ts ++ [(h, n)]) := fun t ht => by
    rcases List.mem_append.1 ht with ht | ht
    · exact hok t ht
    · rw [List.mem_singleton.1 ht]; exact hh
  have prg : ∀ {c ts'} {p r base B : Nat} {us : List Tr} {w : World} {e : Ending} {w' : World}, B ≤ p → TwoP w p r base ts us → AddRes p base c ts' w e w' → TwoOut c p r base B ts' us w e w' := fun hB hT ⟨h1, h2, h3⟩ => by
    have := hT.pb
    refine ⟨h1, hT.updB h2 h3, UpdB.below (Below.refl _ _) h3 hB (by omega), fun b cs hR hbp _ hv => ?_⟩
    obtain ⟨v, u, g1, _⟩ := hT.ex
    have e := (h3.past v (pcell g1)).2 b hR.lt hbp (hv v (pcell g1))
    exact ⟨by unfold IsRow; rw [e]; exact hR.row, by unfold rowOf; rw [e]; exact hR.has⟩
  have same : ∀ {c} {p r base B : Nat} {us : List Tr} {w : World} {e : Ending} {w' : World}, B ≤ r → TwoP w p r base us ts → RSame c w e w' → TwoOut c p r base B us ts w e w' := fun hB hT ⟨h1, h2⟩ => by
    have := hT.rb; have := hT.bz
    exact ⟨h1, hT.step h2, h2.mono (by omega), fun b cs hR _ _ _ => hR.step h2⟩
  have turn : ∀ {c ts'} {p r base B : Nat} {us : List Tr} {w : World} {e : Ending} {w' : World}, B ≤ r → TwoP w p r base us ts → RAdd r c ts' w e w' → TwoOut c p r base B us ts' w e w' := fun hB hT ⟨h1, u, h2, h3, h4, h5⟩ => by
    have := hT.rb; have := hT.bz
    exact ⟨h1, hT.refU h2 h3 h4 h5, upd_below h4 hB (by omega), fun b cs hR _ hbr _ => hR.upd h4 hbr⟩
  by_cases h64 : 64 ≤ ts.length
  · refine ⟨63, ts, hok, hl, fun p r base B us w h1 h2 hT => ?_, fun p r base B us w h1 h2 hT => ?_⟩
    · exact (add_full p base ts h n w hT.past hT.bz h64 (by omega)).mono fun e w' hr => prg h1 hT hr
    · exact (radd_full r ts h n w hT.ref h64 (by omega)).mono fun e w' hr => same h2 hT hr
  · by_cases h0 : ts.length = 0
    · refine ⟨0, ts ++ [(h, n)], hok2, by rw [List.length_append]; simp; omega, fun p r base B us w h1 h2 hT => ?_, fun p r base B us w h1 h2 hT => ?_⟩
      · obtain rfl := List.eq_nil_of_length_eq_zero h0
        exact (add_first p base hT.pb h hh n w hT.past hT.bz).mono fun e w' hr => prg h1 hT hr
      · exact (radd_first r ts h hh n w hT.ref hok h0).mono fun e w' hr => turn h2 hT hr
    · by_cases hn : n = (nthT ts (ts.length - 1)).2 + 1
      · refine ⟨0, ts ++ [(h, n)], hok2, by rw [List.length_append]; simp; omega, fun p r base B us w h1 h2 hT => ?_, fun p r base B us w h1 h2 hT => ?_⟩
        · exact (add_ok p base hT.pb ts h hh n w hT.past hok hT.bz (by omega) (by omega) hn).mono fun e w' hr => prg h1 hT hr
        · exact (radd_next r ts h hh n w hT.ref hok (by omega) (by omega) hn).mono fun e w' hr => turn h2 hT hr
      · refine ⟨1, ts, hok, hl, fun p r base B us w h1 h2 hT => ?_, fun p r base B us w h1 h2 hT => ?_⟩
        · exact (add_arg p base ts h hh n w hT.past hok hT.bz (by omega) (by omega) hn).mono fun e w' hr => prg h1 hT hr
        · exact (radd_arg r ts h hh n w hT.ref hok (by omega) (by omega) hn).mono fun e w' hr => same h2 hT hr
def findP (n : UInt32) : List Tr → List UInt8 × Int
  | [] => (zeros 32, 62)
  | t :: r => if t.2 = n then (t.1, 0) else findP n r
theorem findP_at (n : UInt32) : ∀ (ts : List Tr) (i : Nat), i < ts.length → (nthT ts i).2 = n → (∀ j, j < i → (nthT ts j).2 ≠ n) → findP n ts = ((nthT ts i).1, 0)
  | [], i, hi, _, _ => by simp at hi
  | t :: r, 0, _, he, _ => by
    have he : t.2 = n := by rw [nthT_def] at he; exact he
    rw [findP, if_pos he, nthT_def]; rfl
  | t :: r, i + 1, hi, he, h => by
    have h0 : ¬ t.2 = n := by have := h 0 (by omega); rw [nthT_def] at this; exact this
    rw [findP, if_neg h0, findP_at n r i (by simpa using hi) (by rw [nthT_def] at he ⊢; exact he) (fun j hj => by have := h (j + 1) (by omega); rw [nthT_def] at this ⊢; exact this), nthT_def, nthT_def]
    rfl
theorem findP_none (n : UInt32) : ∀ ts : List Tr, (∀ j, j < ts.length → (nthT ts j).2 ≠ n) → findP n ts = (zeros 32, 62)
  | [], _ => rfl
  | t :: r, h => by
    have h0 : ¬ t.2 = n := by have := h 0 (by simp); rw [nthT_def] at this; exact this
    rw [findP, if_neg h0, findP_none n r (fun j hj => by have := h (j + 1) (by simpa using hj); rw [nthT_def] at this ⊢; exact this)]
theorem findP_len (n : UInt32) : ∀ ts : List Tr, OkT ts → (findP n ts).1.length = 32
  | [], _ => zeros_length 32
  | t :: r, h => by
    rw [findP]
    split
    · exact h t (by simp)
    · exact findP_len n r fun x hx => h x (by simp [hx])
def FindOut (K : List UInt8) (c : Int) (w : World) (e : Ending) (w' : World) : Prop := e = .returned (.tuple #[.agg (u8s K), .int .i64 c]) ∧ Below w.heap.size w w'
theorem FindRes.out {ts : List Tr} {n : UInt32} {w : World} {e : Ending} {w' : World} (h : FindRes ts n w e w') : FindOut (findP n ts).1 (findP n ts).2 w e w' := by
  obtain ⟨hc, hb⟩ := h
  rcases hc with ⟨i, hi, rfl, h1, h2⟩ | ⟨rfl, h1⟩
  · rw [findP_at n ts i hi h1 h2]; exact ⟨rfl, hb⟩
  · rw [findP_none n ts h1]; exact ⟨rfl, hb⟩
def TwoGone (p r base B : Nat) (ts us : List Tr) (w : World) (e : Ending) (w' : World) : Prop := e = .returned (.tuple #[]) ∧ TwoP w' p r base ts us ∧ Below B w w'
theorem Calls.and {P : Program} {f : FuncId} {args : Array Value} {w : World} {Q : Ending → World → Prop} (h : Calls P f args w Q) : Calls P f args w Q := h
theorem forget_two (p r base B : Nat) (ts us : List Tr) (hok : OkT ts) (n : UInt32) (w : World) (hB : B ≤ p) (hT : TwoP w p r base ts us) (hl : ts.length ≤ 1000) :
    Calls Tryd.prog 61 #[.pointer (some ⟨p, 0, none⟩), .int .u32 (n32 n)] w (TwoGone p r base B (forgT n ts) us w) := by
  obtain ⟨v, u, h1, h2, h3, h4, h5, h6⟩ := hT.ex
  refine (forgetK_any (fun k => v.ownBlock = some k) p base hT.pb ts hok n w ⟨v, h1, h2, fun k hk => hk⟩ hT.bz hl).mono ?_
  rintro e w' ⟨rfl, hK, -, hu⟩
  have := hT.pb; have := hT.bz
  refine ⟨rfl, hT.updK (fun K hp => ?_) hu, upd_below hu hB (by omega)⟩
  obtain ⟨v2, g1, g2, g3⟩ := hp
  have e : v = v2 := Option.some.inj ((pcell h1).symm.trans (pcell g1))
  subst e
  obtain ⟨v', k1, k2, k3⟩ := hK
  exact ⟨v', k1, k2, fun k hk => g3 k (k3 k hk)⟩
theorem rforget_two (p r base B : Nat) (ts us : List Tr) (hok : OkT us) (n : UInt32) (w : World) (hB : B ≤ r) (hT : TwoP w p r base ts us) (hl : us.length ≤ 1000) :
    Calls Tryd.prog 62 #[.pointer (some ⟨r, 0, none⟩), .int .u32 (n32 n)] w (TwoGone p r base B ts (forgT n us) w) := by
  refine (rforget_any r us hok n w hT.ref hl).mono ?_
  rintro e w' ⟨rfl, u, h1, h2, h3, h4⟩
  have := hT.rb; have := hT.bz
  exact ⟨rfl, hT.refU h1 h2 h3 h4, upd_below h3 hB (by omega)⟩
/-- a thing to do -/
structure POp where
  d : Int
  n : UInt32
  h : List UInt8
def opL (d : Int) (n : UInt32) (h : List UInt8) : List Value := [.int .i64 d, .int .u32 (n32 n)] ++ u8v h
@[irreducible] def opC (d : Int) (n : UInt32) (h : List UInt8) : Array Value := (opL d n h).toArray
theorem opC_def (d : Int) (n : UInt32) (h : List UInt8) : opC d n h = (opL d n h).toArray := by unfold opC; rfl
theorem opC_size (d : Int) (n : UInt32) (h : List UInt8) (hh : h.length = 32) : (opC d n h).size = 34 := by simp [opC_def, opL, u8v_length, hh]
theorem opC_one (d : Int) (n : UInt32) (h : List UInt8) : (opC d n h).all (·.oneCell') = true := by
  rw [opC_def, opL, List.all_toArray, List.all_append, List.all_eq_true.2 (u8v_one h)]
  rfl
theorem opZ : #[Value.int .i64 0, Value.int .u32 0, Value.int .u8 0, Value.int .u8 0, Value.int .u8 0, Value.int .u8 0, Value.int .u8 0, Value.int .u8 0, Value.int .u8 0, Value.int .u8 0, Value.int .u8 0, Value.int .u8 0, Value.int .u8 0, Value.int .u8 0, Value.int .u8 0, Value.int .u8 0, Value.int .u8 0, Value.int .u8 0, Value.int .u8 0, Value.int .u8 0, Value.int .u8 0, Value.int .u8 0, Value.int .u8 0, Value.int .u8 0, Value.int .u8 0, Value.int .u8 0, Value.int .u8 0, Value.int .u8 0, Value.int .u8 0, Value.int .u8 0, Value.int .u8 0, Value.int .u8 0, Value.int .u8 0, Value.int .u8 0] = opC 0 0 (zeros 32) := by
  rw [opC_def, opL, u8v_def, zeros_def, n32_def]
  kernel_rfl
theorem xopLoad (ev : Operand → Value) (d : Option Tmp) (x : Operand) (ty : TypeId) (p : String) (af : Array Edge) (g : Option (Nat × Bool)) :
    execOp ev ⟨d, .load 108 x, ty, p, af, g⟩ = loadAgg 108 (ev x) := exec_loadAgg ev d _ x ty p af g
theorem xopStore (ev : Operand → Value) (d : Option Tmp) (x y : Operand) (ty : TypeId) (p : String) (af : Array Edge) (g : Option (Nat × Bool)) :
    execOp ev ⟨d, .store 108 x y, ty, p, af, g⟩ = storeAgg 108 (ev x) (ev y) := exec_storeAgg ev d _ x y ty p af g
theorem opStore (w : World) (g : Nat) (cs : Array Value) (hr : (rowOf w g).size = 34) (hc : cs.size = 34) (h1 : cs.all (·.oneCell') = true) :
    (storeAgg 108 (.pointer (some ⟨g, 0, none⟩)) (.agg cs)).run Tryd.prog w = .ok .skip (w.setRow g cs) :=
  run_storeAgg 34 108 (by omega) (by kernel_rfl) w g cs hr hc h1
theorem op_load {w : World} {g o : Nat} {d : Int} {n : UInt32} {h : List UInt8} (hr : w.rangeAt g o (opL d n h)) (hh : h.length = 32) : (loadAgg 108 (.pointer (some ⟨g, o, none⟩))).run Tryd.prog w = .ok (.value (.agg (opC d n h))) w := by
  have hl : (opL d n h).length = 34 := by rw [opL, List.length_append, u8v_length, hh]; rfl
  have := run_loadAt_mid (P := Tryd.prog) w g o 108 (opL d n h) _ hr Tryd.underlying108 (by kernel_rfl) (by rw [hl]; kernel_rfl)
  unfold loadAgg
  simp only [Sem.run_bind, this, Result.andThen_ok, Sem.run_pure]
  rw [opC_def]
section
variable {w : World} {b : Nat} {d : Int} {n : UInt32} {h : List UInt8}
theorem OpRow.c0 (hr : RowIs w b (opC d n h)) : w.cell? ⟨b, 0, none⟩ = some (.int .i64 d) := by
  rw [opC_def] at hr
  exact hr.range 0 1 0 _ rfl
theorem OpRow.c1 (hr : RowIs w b (opC d n h)) : w.cell? ⟨b, 1, none⟩ = some (.int .u32 (n32 n)) := by
  rw [opC_def] at hr
  exact hr.range 1 1 0 _ rfl
theorem OpRow.head (hr : RowIs w b (opC d n h)) (hh : h.length = 32) : (loadAgg 33 (.pointer (some ⟨b, 2, none⟩))).run Tryd.prog w = .ok (.value (.agg (u8s h))) w := by
  rw [opC_def] at hr
  have := run_loadAgg_mid (P := Tryd.prog) (ty := 33) (o := 2) (n := 32) Tryd.underlying33 (by kernel_rfl) (by kernel_rfl) hr (by rw [opL, List.length_append, u8v_length, hh]; simp)
  rw [this]
  have e : ((opL d n h).drop 2).take 32 = u8v h := by
    rw [opL]
    show (u8v h).take 32 = u8v h
    rw [List.take_of_length_le (by rw [u8v_length]; omega)]
  rw [e, u8s_toArray]
end
@[irreducible] def nthO (os : List POp) (i : Nat) : POp := os.getD i ⟨0, 0, []⟩
theorem nthO_def (os : List POp) (i : Nat) : nthO os i = os.getD i ⟨0, 0, []⟩ := by unfold nthO; rfl
def RdPo (w : World) (B : Nat) (A : Option Addr) (os : List POp) : Prop := 0 < os.length → ∃ g o, A = some ⟨g, o, none⟩ ∧ g < B ∧ ∀ i, i < os.length → (nthO os i).h.length = 32 ∧ w.rangeAt g (o + i * 34) (opL (nthO os i).d (nthO os i).n (nthO os i).h)
theorem RdPo.keep {w w' : World} {B : Nat} {A : Option Addr} {os : List POp} (h : RdPo w B A os) (hb : Below B w w') : RdPo w' B A os := fun h0 => by
  obtain ⟨g, o, e, hg, hc⟩ := h h0
  exact ⟨g, o, e, hg, fun i hi => ⟨(hc i hi).1, fun j u hu => (hb.cell (p := ⟨g, o + i * 34 + j, none⟩) hg).trans ((hc i hi).2 j u hu)⟩⟩
end
section
open Go.ChangeShapes Go.WideShapes Go.ChangeAt Go.RowKit
section
variable {P : Program} {H : Type} {enc : TypeId × Value → H} {w : World} {base : Nat} {spare : Nat → Bool} {held : Bool} {fuel : Nat} {t e : TypeId} {x : DataW H × List MemPlace} {n : Nat}
theorem trod_arr8 {cs : List Value} (ht : P.underlying t = some (.array n e)) (he : P.underlying e = some (.int .u8)) (hc : P.cellsOf e = 1) (h : DataW.trod enc P w base spare held fuel t cs = some x) (hl : cs.length = n) : ∃ l : List UInt8, cs = u8v l ∧ l.length = n := by
  obtain ⟨xs, m, rfl, hx, hlen, hn, hel⟩ := DataW.trod_array ht h
  have hz : ∀ i, i < n → ∃ u : UInt8, cs[i]? = some (.int .u8 (n8 u)) := by
    intro i hi
    have h1 := hel i hi
    rw [hc, Nat.mul_one, List.getElem?_eq_getElem (by omega)] at h1
    obtain ⟨z, e1, e2, e3⟩ := DataW.trod_int he h1
    obtain ⟨u, rfl⟩ := wf8 e3
    refine ⟨u, ?_⟩
    have h3 := congrArg (fun l => l[0]?) e1
    simp at h3
    simpa using h3
  have hex : ∀ i, ∃ u : UInt8, i < n → cs[i]? = some (.int .u8 (n8 u)) := fun i => by
    by_cases hi : i < n
    · obtain ⟨u, hu⟩ := hz i hi; exact ⟨u, fun _ => hu⟩
    · exact ⟨0, fun h => absurd h hi⟩
  let f : Nat → UInt8 := fun i => Classical.choose (hex i)
  refine ⟨(List.range n).map f, ?_, by simp⟩
  apply List.ext_getElem?
  intro i
  by_cases hi : i < n
  · rw [Classical.choose_spec (hex i) hi, u8v_get _ i (by simpa using hi), at8_map _ _ _ hi]
  · rw [List.getElem?_eq_none (by omega), List.getElem?_eq_none (by rw [u8v_length]; simp; omega)]
end
section
variable {H : Type} {enc : TypeId × Value → H} {w : World} {base : Nat} {spare : Nat → Bool} {held : Bool} {r : Reach} {b0 fuel : Nat} {v : Value} {d : DataW H} {ps : List MemPlace} {x : DataW H × List MemPlace}
theorem list3 {α : Type} {l : List α} (h : l.length = 3) : ∃ a b c, l = [a, b, c] := by
  match l, h with
  | [a, b, c], _ => exact ⟨a, b, c, rfl⟩
set_option maxRecDepth 100000 in
theorem trod_pop {cs : List Value} (hl : cs.length = 34) (h : DataW.trod enc Tryd.prog w base spare held fuel 108 cs = some x) : ∃ y : POp, y.h.length = 32 ∧ cs = opL y.d y.n y.h := by
  obtain ⟨xs, n, _, _, _, hlen, hf⟩ := DataW.trod_struct Tryd.underlying108 h
  have c1 : Tryd.prog.cellsOf 3 = 1 := by kernel_rfl
  have c2 : Tryd.prog.cellsOf 22 = 1 := by kernel_rfl
  have c3 : Tryd.prog.cellsOf 33 = 32 := by kernel_rfl
  have x3 : xs.length = 3 := hlen
  obtain ⟨y0, y1, y2, rfl⟩ := list3 x3
  have f0 := hf 0 _ rfl
  have f1 := hf 1 _ rfl
  have f2 := hf 2 _ rfl
  change DataW.trod enc Tryd.prog w base spare held n 3 ((cs.drop 0).take (Tryd.prog.cellsOf 3)) = some y0 at f0
  change DataW.trod enc Tryd.prog w base spare held n 22 ((cs.drop 1).take (Tryd.prog.cellsOf 22)) = some y1 at f1
  change DataW.trod enc Tryd.prog w base spare held n 33 ((cs.drop 2).take (Tryd.prog.cellsOf 33)) = some y2 at f2
  rw [c1] at f0
  rw [c2] at f1
  rw [c3] at f2
  obtain ⟨z0, h0, _, w0⟩ := DataW.trod_int Tryd.underlying3 f0
  obtain ⟨z1, h1, _, w1⟩ := DataW.trod_int Tryd.underlying22 f1
  obtain ⟨n1, rfl⟩ := wf32 w1
  obtain ⟨l, hl2, hln⟩ := trod_arr8 Tryd.underlying33 Tryd.underlying5 (by kernel_rfl) f2 (by simp [hl])
  refine ⟨⟨z0, n1, l⟩, hln, ?_⟩
  have e : cs = (cs.drop 0).take 1 ++ ((cs.drop 1).take 1 ++ (cs.drop 2).take 32) := by
    have e2 : (cs.drop 2).take 32 = cs.drop 2 := List.take_of_length_le (by simp [hl])
    rw [e2]
    cases cs with
    | nil => simp at hl
    | cons a r =>
      cases r with
      | nil => simp at hl
      | cons b r => simp
  rw [e, h0, h1, hl2]
  rfl
set_option maxRecDepth 100000 in
theorem arg_pops (hval : Value.okWide Tryd.prog w r b0 102 v) (hd : DataW.Trod enc Tryd.prog w base spare held 102 v d ps) :
    ∃ A c xs, v = .slice A (List.length xs) c ∧ RdPo w w.heap.size A xs := by
  obtain ⟨a, n, c, rfl⟩ := okWide_slice Tryd.underlying102 hval
  obtain ⟨fuel, hf⟩ := hd
  obtain ⟨hnc, hel⟩ := elems_of (k := 34) Tryd.underlying102 (by kernel_rfl) (by omega) (by simpa [Value.cells] using hf)
  by_cases hn : 0 < n
  · obtain ⟨g, o, rfl, hg, hcs⟩ := hel hn
    have hex : ∀ i, ∃ u : POp, i < n → u.h.length = 32 ∧ w.rangeAt g (o + i * 34) (opL u.d u.n u.h) := fun i => by
      by_cases hi : i < n
      · obtain ⟨cs, y, fu, hl, hc1, hy⟩ := hcs i hi
        obtain ⟨u, hu, rfl⟩ := trod_pop hl hy
        refine ⟨u, fun _ => ⟨hu, fun j z hz => ?_⟩⟩
        have hj : j < 34 := by
          have := (List.getElem?_eq_some_iff.1 hz).1
          omega
        have := hc1 j hj
        rw [← Nat.add_assoc] at this
        rw [this]; exact hz
      · exact ⟨⟨0, 0, []⟩, fun h => absurd h hi⟩
    let f : Nat → POp := fun i => Classical.choose (hex i)
    refine ⟨_, c, (List.range n).map f, by simp, fun _ => ⟨g, o, rfl, hg, fun i hi => ?_⟩⟩
    have hi' : i < n := by simpa using hi
    have e1 : nthO ((List.range n).map f) i = f i := by rw [nthO_def]; simp [List.getD, hi']
    rw [e1]
    exact Classical.choose_spec (hex i) hi'
  · obtain rfl : n = 0 := by omega
    exact ⟨a, c, [], rfl, fun h => by simp at h⟩
end
end
end Go.Proofs.YtopmdbmnlflpgaaDoor
