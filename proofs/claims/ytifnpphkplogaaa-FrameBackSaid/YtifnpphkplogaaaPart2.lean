/- A slice literal of one composite, and a struct with its first field given: kept closed until their parts are known. No program. -/
import Derived.Test.YtifnpphkplogaaaPart
import Derived.Great.BuildSlice
import Derived.Deep.AppendLies
namespace Go.Proofs.Ytifnpphkplogaaa
open Go.RowKit
theorem fold_get : ∀ (l : List Value) (k i : Nat) (a : Array Value), ((l.zipIdx k).foldl (fun cs (p : Value × Nat) => cs.setIfInBounds (0 + p.2) p.1) a)[i]? = if k ≤ i ∧ i < k + l.length ∧ i < a.size then l[i - k]? else a[i]?
  | [], k, i, a => by simp; omega
  | x :: l, k, i, a => by
    rw [List.zipIdx_cons, List.foldl_cons, fold_get l (k + 1) i]
    simp only [Array.size_setIfInBounds, List.length_cons]
    by_cases h1 : k + 1 ≤ i ∧ i < k + 1 + l.length ∧ i < a.size
    · rw [if_pos h1, if_pos (by omega), show i - k = (i - (k + 1)) + 1 by omega]; simp
    · rw [if_neg h1]
      by_cases h2 : k = i
      · subst h2
        simp only [Nat.zero_add, Array.getElem?_setIfInBounds]
        by_cases h3 : k < a.size
        · simp [h3]
        · simp [h3]
      · rw [if_neg (by omega)]
        simp [h2]
theorem fill_one {place : Nat → Option (Nat × Nat)} {s : Nat} (hp : place 0 = some (0, s)) (base cs : Array Value) (hb : base.size = s) (hc : cs.size = s) : Instr.fill place base [(0, .agg cs)] = some cs := by
  unfold Instr.fill
  simp only [hp, Value.cells, hc, hb, Nat.zero_add, ne_eq, not_true_eq_false, decide_false, Bool.false_or, gt_iff_lt, Nat.lt_irrefl, decide_false, if_false, Bool.false_eq_true, if_false]
  unfold Instr.fill
  congr 1
  apply Array.ext_getElem?
  intro i
  have e : cs.zipIdx.foldl (fun (cs : Array Value) (p : Value × Nat) => cs.setIfInBounds (0 + p.2) p.1) base = (cs.toList.zipIdx 0).foldl (fun cs (p : Value × Nat) => cs.setIfInBounds (0 + p.2) p.1) base := by
    rw [← Array.foldl_toList, Array.toList_zipIdx]
  have h := fold_get cs.toList 0 i base
  rw [← e] at h
  simp only [Nat.zero_add] at h
  rw [h]
  by_cases hi : i < s
  · rw [if_pos (by simp; omega)]; simp
  · rw [if_neg (by omega), Array.getElem?_eq_none (by omega), Array.getElem?_eq_none (by omega)]
/-- a slice literal, kept closed until its parts are known -/
@[irreducible] def bsliceK (t : TypeId) (n : Nat) (ps : Array (Nat × Value)) : Sem Next := do pure (Next.value (← Instr.buildSlice t n ps))
theorem exec_bsliceK (ev : Operand → Value) (d : Option Tmp) (t : TypeId) (n : Nat) (ps : Array (Nat × Operand)) (ty : TypeId) (p : String) (af : Array Edge) (g : Option (Nat × Bool)) :
    execOp ev ⟨d, .buildSlice t n ps, ty, p, af, g⟩ = bsliceK t n (ps.map fun x => (x.1, ev x.2)) := by unfold bsliceK; rfl
theorem run_bsliceK1 {P : Program} {t e : TypeId} {s : Nat} (hu : P.underlying t = some (.slice e)) (hi : (P.info? e).map (fun i => (i.zero.isSome, i.size)) = some (true, s)) (h0 : 0 < s) (hs : s ≤ 100000) (cs : Array Value) (hc : cs.size = s) (w : World) :
    (bsliceK t 1 #[(0, .agg cs)]).run P w = .ok (.value (.slice (some ⟨w.heap.size, 0, none⟩) 1 1)) (w.alloc (.cells cs e)) := by
  obtain ⟨ie, hie, h2⟩ := Option.map_eq_some_iff.1 hi
  simp only [Prod.mk.injEq] at h2
  obtain ⟨z, hz⟩ := Option.isSome_iff_exists.1 h2.1
  have hsz := h2.2
  unfold bsliceK
  have := run_buildSlice (P := P) w t e 1 #[(0, .agg cs)] cs ie z hu hie hz (by rw [hsz]; omega) (by rw [hsz]; omega) (by
    rw [hsz]
    exact fill_one (s := s) (by simp) _ cs (by simp) hc)
  simp only [Sem.run_bind, this, Result.andThen_ok, Sem.run_pure]
/-- copy of composites: n of them, s cells each -/
theorem run_copyS {P : Program} {w : World} {dT sT ty elem : TypeId} {s n g off sg so dc sc : Nat} {l src : List Value} (hu : P.underlying dT = some (.slice elem)) (hsz : (P.info? elem).map (·.size) = some s)
    (hd : RowIs w g l.toArray) (hsr : RowIs w sg src.toArray) (hl : off + n * s ≤ l.length) (hs : so + n * s ≤ src.length) (h1 : ∀ v ∈ src, v.oneCell' = true) :
    (Builtin.copy_ #[dT, sT] ty #[.slice (some ⟨g, off, none⟩) n dc, .slice (some ⟨sg, so, none⟩) n sc]).run P w = .ok (goInt n) (w.setRow g (spl l off ((src.drop so).take (n * s))).toArray) := by
  have hcl : ((src.drop so).take (n * s)).length = n * s := by rw [List.length_take, List.length_drop]; omega
  have hload := run_loadCells_list (P := P) w ⟨sg, so, none⟩ ((src.drop so).take (n * s)) (fun j v hv => by rw [Addr.add_mid]; exact hsr.range so (n * s) j v hv)
  rw [hcl] at hload
  have hth := hd.there off (n * s) hl
  have hst := run_storeCells_cells (P := P) g off ((src.drop so).take (n * s)) 0 w (fun j hj => by simpa using (hth j (by omega)).1) (fun j hj => by simpa using (hth j (by omega)).2)
    (fun v hv => h1 v (List.mem_of_mem_drop (List.mem_of_mem_take hv)))
  rw [Nat.add_zero, setCells_row _ _ _ _ hd (by rw [hcl]; exact hl)] at hst
  obtain ⟨i, hi, rfl⟩ := Option.map_eq_some_iff.1 hsz
  simp [Builtin.copy_, run_underlying hu, Builtin.lenOf, Builtin.firstCells, sizeOf, typeInfo, hi, hload, hst]
theorem wpList_copyS {P : Program} {w : World} {ops : Array Oper} {rest : List Oper} {o : Oper} {a : Act} {Q : Exit → Act → World → Prop} (hgd : o.guard = none) (d sr : Operand) (dT sT elem : TypeId)
    (ho : o.op = .call { callee := .builtin .copy, args := #[d, sr], argTypes := #[dT, sT] }) {s n g off sg so dc sc : Nat} {l src : List Value} (hdv : a.eval d = .slice (some ⟨g, off, none⟩) n dc) (hsv : a.eval sr = .slice (some ⟨sg, so, none⟩) n sc)
    (hu : P.underlying dT = some (.slice elem)) (hsz : (P.info? elem).map (·.size) = some s)
    (hd : RowIs w g l.toArray) (hsr : RowIs w sg src.toArray) (hl : off + n * s ≤ l.length) (hs : so + n * s ≤ src.length) (h1 : ∀ v ∈ src, v.oneCell' = true)
    (h : wpList P ops Q rest (a.put o.dst (goInt n)) (w.setRow g (spl l off ((src.drop so).take (n * s))).toArray)) : wpList P ops Q (o :: rest) a w := by
  refine wpList_plain hgd fun K hK => ?_
  have hrun := run_copyS (P := P) (w := w) (dT := dT) (sT := sT) (ty := o.type) (dc := dc) (sc := sc) hu hsz hd hsr hl hs h1
  unfold Oper.wp
  simp [execOp, ho, resolve, invoke, builtin, hdv, hsv, hrun, Result.andThen]
  exact hK _ _ h
/-- whole values cloned: an empty slice, and all appended -/
theorem run_cloneS {P : Program} {w : World} {t ty e : TypeId} {i : TypeInfo} {z : Value} {size bytes n c : Nat} {ad : Addr} {news : List Value} (ht : P.underlying t = some (.slice e)) (hi : P.info? e = some i) (hz : i.zero = some z)
    (hsize : i.size = size) (hby : i.bytes = bytes) (hzs : z.cells.size = size) (hsz : 0 < size) (hl : news.length = n * size) (hnews : ∀ j u, news[j]? = some u → (w.alloc (.cells #[] e)).cell? (ad.add j) = some u) (h1 : ∀ u ∈ news, u.oneCell' = true)
    (hn : 0 < n) (h63 : n ≤ 1000000) (hbytes : n * bytes ≤ 140737488355328) :
    ∃ g cap w', (Builtin.append_ #[t, t] ty #[.slice (some ⟨w.heap.size, 0, none⟩) 0 0, .slice (some ad) n c]).run P (w.alloc (.cells #[] e)) = .ok (.slice (some ⟨g, 0, none⟩) n cap) w' ∧
      w'.ownsRow w.heap.size e size (.slice (some ⟨g, 0, none⟩) n cap) n news ∧ Below w.heap.size w w' := by
  have hown : (w.alloc (.cells #[] e)).ownsRow w.heap.size e size (.slice (some ⟨w.heap.size, 0, none⟩) 0 0) 0 [] := World.ownsRow_made w #[] 0 (Nat.le_refl _) (by simp) (by simp)
  obtain ⟨g, cap, w', hr, h2, h3, h4, h5⟩ := run_append_lies (P := P) (w := w.alloc (.cells #[] e)) t ty w.heap.size e i z size bytes ht hi hz hsize hby hzs hsz _ 0 [] hown ad n c news hl hnews h1 hn (by simp only [maxLen]; omega) (by rw [Nat.zero_add]; exact hbytes) (by simp) _ rfl
  rw [Nat.zero_add] at hr h2
  refine ⟨g, cap, w', hr, by simpa using h2, ?_⟩
  exact (((Below.refl w.heap.size w).alloc (Nat.le_refl _) _)).grown h3 (by simp) (fun k hk => by
    have : w.heap.size = k := by simpa [Value.ownBlock] using hk
    omega)
end Go.Proofs.Ytifnpphkplogaaa
