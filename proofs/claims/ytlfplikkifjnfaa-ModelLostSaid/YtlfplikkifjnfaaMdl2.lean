/- Layer 26: an Event as a row, the closure on it, whether it tells, a clone; a queue's list of its own. -/
import Derived.Test.YtlfplikkifjnfaaMdl1
import Derived.Test.YtlfplikkifjnfaaPart
import Derived.Lib.SliceRun
namespace Go.Proofs.Ytlfplikkifjnfaa
open Go.RowKit
def evL (d who code : Int) (v : Value) : List Value := [.int .i64 d, .int .i64 who, .int .i64 code, v]
@[irreducible] def evC (d who code : Int) (v : Value) : Array Value := (evL d who code v).toArray
theorem evC_def (d who code : Int) (v : Value) : evC d who code v = (evL d who code v).toArray := by unfold evC; rfl
theorem evC_size (d who code : Int) (v : Value) : (evC d who code v).size = 4 := by rw [evC_def]; simp [evL, Value.oneCell']
theorem evC_one (d who code : Int) (A : Option Addr) (n c : Nat) : (evC d who code (.slice A n c)).all (·.oneCell') = true := by rw [evC_def]; simp [evL, Value.oneCell']
section
variable {w : World} {b : Nat} {d who code : Int} {v : Value}
theorem EvRow.at (h : RowIs w b (evC d who code v)) (i : Nat) : w.cell? ⟨b, i, none⟩ = (evL d who code v)[i]? := by
  obtain ⟨t, ht⟩ := h.row.heap
  rw [h.has, evC_def] at ht
  rw [cell_of_row w b i _ t (0, 0) ht, List.getElem?_toArray]
theorem EvRow.c0 (h : RowIs w b (evC d who code v)) : w.cell? ⟨b, 0, none⟩ = some (.int .i64 d) := EvRow.at h 0
theorem EvRow.c1 (h : RowIs w b (evC d who code v)) : w.cell? ⟨b, 1, none⟩ = some (.int .i64 who) := EvRow.at h 1
theorem EvRow.c2 (h : RowIs w b (evC d who code v)) : w.cell? ⟨b, 2, none⟩ = some (.int .i64 code) := EvRow.at h 2
theorem EvRow.c3 (h : RowIs w b (evC d who code v)) : w.cell? ⟨b, 3, none⟩ = some v := EvRow.at h 3
theorem EvRow.load (h : RowIs w b (evC d who code v)) : (loadAgg 36 (.pointer (some ⟨b, 0, none⟩))).run Try.prog w = .ok (.value (.agg (evC d who code v))) w := by
  have := run_loadAgg (P := Try.prog) 4 36 (by omega) (by kernel_rfl) (by kernel_rfl) w b (by rw [h.has, evC_size])
  rw [h.has] at this; exact this
end
theorem ev_load {w : World} {g o : Nat} {d who code : Int} {v : Value} (hr : w.rangeAt g o (evL d who code v)) : (loadAgg 36 (.pointer (some ⟨g, o, none⟩))).run Try.prog w = .ok (.value (.agg (evC d who code v))) w := by
  have := run_loadAt_mid (P := Try.prog) w g o 36 (evL d who code v) _ hr Try.underlying36 (by kernel_rfl) (by kernel_rfl)
  unfold loadAgg
  simp only [Sem.run_bind, this, Result.andThen_ok, Sem.run_pure]
  rw [evC_def]
theorem xevLoad (ev : Operand → Value) (d : Option Tmp) (x : Operand) (ty : TypeId) (p : String) (af : Array Edge) (g : Option (Nat × Bool)) :
    execOp ev ⟨d, .load 36 x, ty, p, af, g⟩ = loadAgg 36 (ev x) := exec_loadAgg ev d _ x ty p af g
theorem xevStore (ev : Operand → Value) (d : Option Tmp) (x y : Operand) (ty : TypeId) (p : String) (af : Array Edge) (g : Option (Nat × Bool)) :
    execOp ev ⟨d, .store 36 x y, ty, p, af, g⟩ = storeAgg 36 (ev x) (ev y) := exec_storeAgg ev d _ x y ty p af g
attribute [go_sem ↓] xevLoad xevStore
attribute [go_sem] evC_size evC_one
/-- whether an Event tells something -/
def tellsB (d who code : Int) : Bool := (d == 1 || d == 6) && code == 0 && (who == 0 || who == 1)
def TellRes (w : World) (r : Bool) (e : Ending) (w' : World) : Prop := e = .returned (.bool r) ∧ Below w.heap.size w w'
set_option maxRecDepth 100000 in
theorem tells_any (d who code : Int) (v : Value) (w : World) : Calls Try.prog 15 #[.agg (evC d who code v)] w (TellRes w (tellsB d who code)) := by
  have hB : Below w.heap.size w (w.alloc (.cells (evC d who code v) 36)) := (by repeat (first | with_reducible exact Below.refl _ _ | with_reducible assumption | refine Below.drew ?_ | refine below_drewN ?_ | refine Below.alloc ?_ (by first | omega | (simp; done) | (simp; omega)) _ | refine below_setRow ?_ (by omega) _ | refine Below.setCell ?_ (by first | omega | (simp; done) | (simp; omega)) _))
  have R : RowIs (w.alloc (.cells (evC d who code v) 36)) w.heap.size (evC d who code v) := RowIs.new _ _ _
  have k0 := EvRow.c0 R; have k1 := EvRow.c1 R; have k2 := EvRow.c2 R
  have fin : ∀ r, tellsB d who code = r → TellRes w (tellsB d who code) (.returned (.bool r)) (w.alloc (.cells (evC d who code v) 36)) := fun r h => ⟨by rw [h], hB⟩
  have FIN := Lib.hid fin
  clear fin hB R
  by_cases h1 : d = 1 ∨ d = 6
  · by_cases h2 : code = 0
    · subst h2
      by_cases h3 : who = 0
      · subst h3
        rcases h1 with rfl | rfl <;> (go_enter Try.func15, Try.ntmps15; go_wp2_with fail; go_ret; exact FIN.out _ rfl)
      · by_cases h4 : who = 1
        · subst h4
          clear h3
          rcases h1 with rfl | rfl <;> (go_enter Try.func15, Try.ntmps15; go_wp2_with fail; go_ret; exact FIN.out _ rfl)
        · have t3 : (who == 0) = false := by simpa using h3
          have t4 : (who == 1) = false := by simpa using h4
          have H3 := Lib.hid t3; have H4 := Lib.hid t4
          clear h3 h4
          rcases h1 with rfl | rfl <;> (go_enter Try.func15, Try.ntmps15; go_wp2_with fail; go_ret; exact FIN.out _ (by unfold tellsB; rw [H3.out, H4.out]; rfl))
    · have t3 : (code == 0) = false := by simpa using h2
      have H3 := Lib.hid t3
      clear h2
      rcases h1 with rfl | rfl <;> (go_enter Try.func15, Try.ntmps15; go_wp2_with fail; go_ret; exact FIN.out _ (by unfold tellsB; rw [H3.out]; simp))
  · have t1 : (d == 1) = false := by simp; omega
    have t2 : (d == 6) = false := by simp; omega
    have H1 := Lib.hid t1; have H2 := Lib.hid t2
    clear h1
    go_enter Try.func15, Try.ntmps15
    go_wp2_with fail
    go_ret
    exact FIN.out _ (by unfold tellsB; rw [H1.out, H2.out]; rfl)
/-- the closure on an Event -/
abbrev isF (x : Nat) : Value := .func (.func 23) #[] #[.pointer (some ⟨x, 0, none⟩)]
def IsRes (d who code : Int) (v : Value) (w : World) (e : Ending) (w' : World) : Prop := ∃ x, e = .returned (isF x) ∧ w.heap.size ≤ x ∧ RowIs w' x (evC d who code v) ∧ Below w.heap.size w w'
theorem is_any (d who code : Int) (v : Value) (w : World) : Calls Try.prog 17 #[.agg (evC d who code v)] w (IsRes d who code v w) := by
  have hB : Below w.heap.size w (w.alloc (.cells (evC d who code v) 36)) := (by repeat (first | with_reducible exact Below.refl _ _ | with_reducible assumption | refine Below.drew ?_ | refine below_drewN ?_ | refine Below.alloc ?_ (by first | omega | (simp; done) | (simp; omega)) _ | refine below_setRow ?_ (by omega) _ | refine Below.setCell ?_ (by first | omega | (simp; done) | (simp; omega)) _))
  have R : RowIs (w.alloc (.cells (evC d who code v) 36)) w.heap.size (evC d who code v) := RowIs.new _ _ _
  go_enter Try.func17, Try.ntmps17
  go_wp2_with fail
  go_ret
  exact ⟨_, rfl, Nat.le_refl _, R, hB⟩
theorem is1_any {w : World} {vb vx : Value} {l m : List UInt8} {x : Nat} (hb : Bs w vb l) (hc : w.cell? ⟨x, 3, none⟩ = some vx) (hx : Bs w vx m) : Calls Try.prog 23 #[vb, .pointer (some ⟨x, 0, none⟩)] w fun e w' => e = .returned (.bool (decide (l = m))) ∧ w = w' := by
  have EQ := Lib.hid (equal_bs hb hx)
  obtain ⟨bb, hbb⟩ : ∃ bb, bb = decide (l = m) := ⟨_, rfl⟩
  rw [← hbb] at EQ ⊢
  clear hb hx hbb
  go_enter Try.func23, Try.ntmps23
  go_wp2_with fail
  refine EQ.out.mono ?_
  rintro e w' ⟨rfl, rfl⟩
  go_wp2_with fail
  go_ret
  exact ⟨rfl, rfl⟩
set_option maxRecDepth 100000 in
theorem clone_bs {w : World} {v : Value} {l : List UInt8} (h : Bs w v l) : Calls Try.prog 19 #[v] w (BsRes w l) := by
  have hl := h.le
  obtain ⟨A, c, rfl, -, -, -⟩ := id h
  obtain ⟨N, hN⟩ : ∃ N, l.length = N := ⟨_, rfl⟩
  have HN := Lib.hid hN
  rw [hN] at h hl ⊢
  clear hN
  cases A with
  | none =>
    have h0 : l = [] := by
      obtain ⟨A', c', h1, h2, h3, h4⟩ := h
      injection h1 with e1 e2 e3
      subst e1
      rcases Nat.eq_zero_or_pos l.length with h0 | h0
      · exact List.eq_nil_of_length_eq_zero h0
      · obtain ⟨g, o, e, _⟩ := h4 h0; cases e
    have H0 := Lib.hid h0
    have hN0 : N = 0 := by rw [← HN.out, h0]; rfl
    subst hN0
    have hnil := fun (w : World) => Lib.run_eql_slice_nil (P := Try.prog) w 34 5 none 0 c 0 0 Try.underlying34
    clear h h0 hl
    go_enter Try.func19, Try.ntmps19
    go_wp2_with fail
    go_ret
    rw [H0.out]
    exact ⟨_, rfl, Bs.nil _, Below.refl _ _⟩
  | some a =>
    have hb := h.step ((Below.refl w.heap.size w).alloc (Nat.le_refl _) (.cells #[] 5))
    have ho := Own8.empty (T := 5) (g := w.heap.size) w (base := w.heap.size) rfl (Nat.le_refl _)
    clear h
    have hnil := fun (w : World) => Lib.run_eql_slice_nil (P := Try.prog) w 34 5 (some a) N c 0 0 Try.underlying34
    go_enter Try.func19, Try.ntmps19
    go_wp2_with (at_builtin; refine wpList_appendBs Try.underlying34 Try.info8 rfl (.tmp 5) (.tmp 6) rfl w.heap.size rfl ho rfl hb (List.nil_append _) HN.out (by omega) (by simp) ?_; intro A' c' w' own1 bel1)
    go_ret
    exact ⟨_, rfl, by have := own1.bs (by rw [HN.out]; exact hl); exact this, ((Below.refl w.heap.size w).alloc (Nat.le_refl _) _).trans bel1⟩
end Go.Proofs.Ytlfplikkifjnfaa
