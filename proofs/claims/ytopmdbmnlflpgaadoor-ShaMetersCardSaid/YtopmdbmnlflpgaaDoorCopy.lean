/- copy into a row that is known whole: the world behind it written out. No program. -/
import Derived.Test.YtopmdbmnlflpgaaDoorRow
import Derived.Laws.CopyOwn
import Derived.Laws.Tables
namespace Go.Proofs.YtopmdbmnlflpgaaDoor
open Go.RowKit
/-- cs laid over l from off on -/
def spl {α : Type} (l : List α) (off : Nat) (cs : List α) : List α := l.take off ++ cs ++ l.drop (off + cs.length)
theorem spl_length {α : Type} (l : List α) (off : Nat) (cs : List α) (h : off + cs.length ≤ l.length) : (spl l off cs).length = l.length := by simp [spl]; omega
theorem spl_map {α β : Type} (f : α → β) (l : List α) (off : Nat) (cs : List α) : (spl l off cs).map f = spl (l.map f) off (cs.map f) := by simp [spl]
theorem run_copyRow {P : Program} (w : World) (dT sT ty elem : TypeId) (hu : P.underlying dT = some (.slice elem)) (hsz : (P.info? elem).map (·.size) = some 1)
    (g off dLen dCap : Nat) (sp : Option Addr) (sLen sCap : Nat) (l cs : List Value) (hrow : RowIs w g l.toArray) (hn : cs.length = min sLen dLen)
    (hsrc : 0 < cs.length → ∃ sg so, sp = some ⟨sg, so, none⟩ ∧ ∀ j v, cs[j]? = some v → w.cell? ⟨sg, so + j, none⟩ = some v) (hfit : off + cs.length ≤ l.length) (h1 : ∀ v ∈ cs, v.oneCell' = true) :
    (Builtin.copy_ #[dT, sT] ty #[.slice (some ⟨g, off, none⟩) dLen dCap, .slice sp sLen sCap]).run P w = .ok (goInt cs.length) (w.setRow g (spl l off cs).toArray) := by
  obtain ⟨t, ht⟩ := hrow.row.heap
  rw [hrow.has] at ht
  by_cases h0 : cs.length = 0
  · obtain rfl : cs = [] := List.eq_nil_of_length_eq_zero h0
    have e : (spl l off []).toArray = l.toArray := by simp [spl]
    rw [e, ← hrow.eq]
    exact run_copy_none w dT sT ty elem _ _ dLen dCap sLen sCap hu hsz (by simpa using hn.symm)
  · obtain ⟨sg, so, rfl, hs⟩ := hsrc (by omega)
    have := run_copy_row (P := P) w dT sT ty elem g off dLen dCap ⟨sg, so, none⟩ sLen sCap l.toArray t cs hu hsz ht hn (fun j v hv => by
      have e : (⟨sg, so, none⟩ : Addr).add j = ⟨sg, so + j, none⟩ := by unfold Addr.add; split <;> simp_all
      rw [e]; exact hs j v hv) (by simpa using hfit) h1
    simpa [spl] using this
theorem wpList_copyRow {P : Program} {w : World} {ops : Array Oper} {rest : List Oper} {o : Oper} {a : Act} {Q : Exit → Act → World → Prop} (hgd : o.guard = none) (d s : Operand) (dT sT : TypeId)
    (ho : o.op = .call { callee := .builtin .copy, args := #[d, s], argTypes := #[dT, sT] }) (elem : TypeId) (hu : P.underlying dT = some (.slice elem)) (hsz : (P.info? elem).map (·.size) = some 1)
    (g off dLen dCap : Nat) (sp : Option Addr) (sLen sCap : Nat) (hd : a.eval d = .slice (some ⟨g, off, none⟩) dLen dCap) (hs : a.eval s = .slice sp sLen sCap)
    (l cs : List Value) (hrow : RowIs w g l.toArray) (hn : cs.length = min sLen dLen)
    (hsrc : 0 < cs.length → ∃ sg so, sp = some ⟨sg, so, none⟩ ∧ ∀ j v, cs[j]? = some v → w.cell? ⟨sg, so + j, none⟩ = some v) (hfit : off + cs.length ≤ l.length) (h1 : ∀ v ∈ cs, v.oneCell' = true)
    (h : wpList P ops Q rest (a.put o.dst (goInt cs.length)) (w.setRow g (spl l off cs).toArray)) : wpList P ops Q (o :: rest) a w := by
  refine wpList_plain hgd fun K hK => ?_
  have hrun := run_copyRow (P := P) w dT sT o.type elem hu hsz g off dLen dCap sp sLen sCap l cs hrow hn hsrc hfit h1
  unfold Oper.wp
  simp [execOp, ho, resolve, invoke, builtin, hd, hs, hrun, Result.andThen]
  exact hK _ _ h
/-- the next operation is a copy -/
theorem copy_here {P : Program} {w : World} {ops : Array Oper} {rest : List Oper} {a : Act} {Q : Exit → Act → World → Prop} {dst : Option Tmp} {as : Array Operand} {ts : Array TypeId} {ty : TypeId} {pos : String} {af : Array Edge} {gd : Option (Nat × Bool)}
    (h : wpList P ops Q (⟨dst, .call { callee := .builtin .copy, args := as, argTypes := ts }, ty, pos, af, gd⟩ :: rest) a w) : wpList P ops Q (⟨dst, .call { callee := .builtin .copy, args := as, argTypes := ts }, ty, pos, af, gd⟩ :: rest) a w := h
theorem u8s_toArray (l : List UInt8) : u8s l = (u8v l).toArray := by simp [u8s_def, u8v_def]
theorem u8v_spl (l : List UInt8) (off : Nat) (cs : List UInt8) : (spl (u8v l) off (u8v cs)).toArray = u8s (spl l off cs) := by
  rw [u8s_toArray, u8v_def, u8v_def, u8v_def, spl_map]
/-- bytes -/
theorem wpList_copy8 {P : Program} {w : World} {ops : Array Oper} {rest : List Oper} {o : Oper} {a : Act} {Q : Exit → Act → World → Prop} (hgd : o.guard = none) (d s : Operand) (dT sT : TypeId)
    (ho : o.op = .call { callee := .builtin .copy, args := #[d, s], argTypes := #[dT, sT] }) (elem : TypeId) (hu : P.underlying dT = some (.slice elem)) (hsz : (P.info? elem).map (·.size) = some 1)
    (g off dLen dCap : Nat) (sp : Option Addr) (sLen sCap : Nat) (hd : a.eval d = .slice (some ⟨g, off, none⟩) dLen dCap) (hs : a.eval s = .slice sp sLen sCap)
    (l cs : List UInt8) (hrow : RowIs w g (u8s l)) (hn : cs.length = min sLen dLen) (B : Nat) (hsrc : Rd8 w B sp cs) (hfit : off + cs.length ≤ l.length)
    (h : wpList P ops Q rest (a.put o.dst (goInt cs.length)) (w.setRow g (u8s (spl l off cs)))) : wpList P ops Q (o :: rest) a w := by
  have hl : (u8v cs).length = cs.length := by simp [u8v_def]
  refine wpList_copyRow hgd d s dT sT ho elem hu hsz g off dLen dCap sp sLen sCap hd hs (u8v l) (u8v cs) (by rw [← u8s_toArray]; exact hrow) (by rw [hl]; exact hn) (fun h0 => ?_) (by rw [hl]; simpa [u8v_def] using hfit) (fun v hv => ?_) ?_
  · rw [hl] at h0
    obtain ⟨sg, so, hsp, _, hc⟩ := hsrc h0
    refine ⟨sg, so, hsp, fun j v hv => ?_⟩
    simp only [u8v_def, List.getElem?_map] at hv
    by_cases hj : j < cs.length
    · rw [List.getElem?_eq_getElem hj] at hv
      simp at hv
      rw [hc j hj, at8_get cs j hj, ← hv]
    · rw [List.getElem?_eq_none (by omega)] at hv
      simp at hv
  · simp only [u8v_def, List.mem_map] at hv
    obtain ⟨b, _, rfl⟩ := hv
    rfl
  · rw [hl, u8v_spl]; exact h
theorem u32s_toArray (l : List UInt32) : u32s l = (u32v l).toArray := by simp [u32s_def, u32v_def]
theorem u32v_spl (l : List UInt32) (off : Nat) (cs : List UInt32) : (spl (u32v l) off (u32v cs)).toArray = u32s (spl l off cs) := by
  rw [u32s_toArray, u32v_def, u32v_def, u32v_def, spl_map]
/-- words out of a row -/
theorem wpList_copy32 {P : Program} {w : World} {ops : Array Oper} {rest : List Oper} {o : Oper} {a : Act} {Q : Exit → Act → World → Prop} (hgd : o.guard = none) (d s : Operand) (dT sT : TypeId)
    (ho : o.op = .call { callee := .builtin .copy, args := #[d, s], argTypes := #[dT, sT] }) (elem : TypeId) (hu : P.underlying dT = some (.slice elem)) (hsz : (P.info? elem).map (·.size) = some 1)
    (g off dLen dCap : Nat) (sg so sLen sCap : Nat) (hd : a.eval d = .slice (some ⟨g, off, none⟩) dLen dCap) (hs : a.eval s = .slice (some ⟨sg, so, none⟩) sLen sCap)
    (l cs : List UInt32) (hrow : RowIs w g (u32s l)) (hn : cs.length = min sLen dLen) (hsrc : ∀ j, j < cs.length → w.cell? ⟨sg, so + j, none⟩ = some (.int .u32 (n32 (at32 cs j)))) (hfit : off + cs.length ≤ l.length)
    (h : wpList P ops Q rest (a.put o.dst (goInt cs.length)) (w.setRow g (u32s (spl l off cs)))) : wpList P ops Q (o :: rest) a w := by
  have hl : (u32v cs).length = cs.length := by simp [u32v_def]
  refine wpList_copyRow hgd d s dT sT ho elem hu hsz g off dLen dCap (some ⟨sg, so, none⟩) sLen sCap hd hs (u32v l) (u32v cs) (by rw [← u32s_toArray]; exact hrow) (by rw [hl]; exact hn) (fun h0 => ⟨sg, so, rfl, fun j v hv => ?_⟩) (by rw [hl]; simpa [u32v_def] using hfit) (fun v hv => ?_) ?_
  · by_cases hj : j < cs.length
    · rw [hsrc j hj, ← u32v_get cs j hj, hv]
    · rw [u32v_def, List.getElem?_eq_none (by simp; omega)] at hv
      simp at hv
  · simp only [u32v_def, List.mem_map] at hv
    obtain ⟨b, _, rfl⟩ := hv
    rfl
  · rw [hl, u32v_spl]; exact h
theorem RowIs.cell {w : World} {g : Nat} {l : List UInt32} (h : RowIs w g (u32s l)) (j : Nat) (hj : j < l.length) : w.cell? ⟨g, 0 + j, none⟩ = some (.int .u32 (n32 (at32 l j))) := by
  obtain ⟨t, ht⟩ := h.row.heap
  rw [h.has] at ht
  rw [Nat.zero_add, cell_of_row _ g j _ t (0, 0) ht]
  exact u32s_get l j hj
/-- a composite that is built, kept closed until its parts are known -/
@[irreducible] def buildK (t : TypeId) (ps : Array (Nat × Value)) : Sem Next := do pure (Next.value (← Instr.build t ps))
theorem exec_buildK (ev : Operand → Value) (d : Option Tmp) (t : TypeId) (ps : Array (Nat × Operand)) (ty : TypeId) (p : String) (af : Array Edge) (g : Option (Nat × Bool)) :
    execOp ev ⟨d, .build t ps, ty, p, af, g⟩ = buildK t (ps.map fun x => (x.1, ev x.2)) := by unfold buildK; rfl
theorem run_buildK {P : Program} {t : TypeId} {ps : Array (Nat × Value)} {cells : Array Value} (h : P.built t ps.toList = some cells) (w : World) : (buildK t ps).run P w = .ok (.value (.agg cells)) w := by
  unfold buildK
  simp only [Sem.run_bind, run_build w t ps cells h, Result.andThen_ok, Sem.run_pure]
end Go.Proofs.YtopmdbmnlflpgaaDoor
