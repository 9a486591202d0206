/- Layer 11, the document's device: what turns its last three fields; a whole sector. -/
import Derived.Test.YtbfloejpgjheiaaPly1
namespace Go.Proofs.Ytbfloejpgjheiaa
open Go.RowKit
def DoneR (L : DL) (r : Nat) (d : Dv) (vs vp : Value) (fl : Bool) (w : World) (e : Ending) (w' : World) : Prop := e = .returned (.bool (!d.tick.down)) ∧ ∃ lf, RD L w' r d.tick vs vp fl lf ∧ Upd r w w'
set_option maxRecDepth 100000 in
theorem rdone_any (L : DL) (r : Nat) (d : Dv) (vs vp : Value) (fl : Bool) (lf : Int) (w : World) (h : RD L w r d vs vp fl lf) : Calls Try.prog 34 #[.pointer (some ⟨r, 0, none⟩)] w (DoneR L r d vs vp fl w) := by
  obtain ⟨c0, c1, c2, c3, c4⟩ := h.row.cells5
  have f3 := h.row.fz 3
  have f4 := h.row.fz 4
  have hi := h.ok.hi
  have ok := Dv.tick_ok h.ok
  have HH := Lib.hid h
  obtain ⟨b, hb⟩ : ∃ b, d.down = b := ⟨_, rfl⟩
  rw [hb] at c4
  have HB := Lib.hid hb
  rcases h.fuse with ⟨rfl, rfl, h0⟩ | ⟨rfl, h0⟩
  · obtain ⟨f, hf⟩ : ∃ f, d.fuse = f := ⟨_, rfl⟩
    have HF := Lib.hid hf
    rw [hf] at c3 h0 hi
    clear hf hb h c0 c1
    by_cases hz : f = 0
    · subst hz
      have e1 : d.tick = { d with down := true } := by unfold Dv.tick; simp [HF.out]
      cases b with
      | true =>
        go_enter Try.func34, Try.ntmps34
        go_wp2_with fail
        go_ret
        have e2 : d.tick = d := by rw [e1, ← HB.out]
        rw [DoneR, e2]
        exact ⟨ret_bool (by rw [HB.out]; rfl), _, HH.out, Upd.refl _ _⟩
      | false =>
        go_enter Try.func34, Try.ntmps34
        go_wp2_with fail
        go_ret
        rw [DoneR, e1]
        have h := HH.out
        have hu := (Upd.refl r w).put 4 (.bool true)
        refine ⟨rfl, d.fuse, h.put _ hu ?_ ?_ h.secs h.pend (by rw [← e1]; exact ok) h.cons, hu⟩
        · have := h.row.put 4 (.bool true); simpa using this
        · exact h.fuse
    · have hn : (f == 0) = false := by simpa using hz
      have hp : 0 < f := by omega
      have e1 : d.tick = { d with fuse := f - 1 } := by unfold Dv.tick; simp [HF.out, hz, hp]
      cases b <;>
      · go_enter Try.func34, Try.ntmps34
        go_wp2_with fail
        go_ret
        rw [DoneR, e1]
        have h := HH.out
        have hu := (Upd.refl r w).put 3 (.int .i64 (f - 1))
        refine ⟨ret_bool (by show _ = !d.down; rw [HB.out]; rfl), _, h.put _ hu ?_ (.inl ⟨rfl, rfl, by show 0 ≤ f - 1; omega⟩) h.secs h.pend (by rw [← e1]; exact ok) h.cons, hu⟩
        have := h.row.put 3 (.int .i64 (f - 1)); simpa using this
  · have e1 : d.tick = d := by
      have h1 : ¬ 0 < d.fuse := by omega
      have h2 : ¬ d.fuse = 0 := by omega
      unfold Dv.tick
      simp only [h1, h2, if_false]
    clear hb h c0 c1
    cases b <;>
    · go_enter Try.func34, Try.ntmps34
      go_wp2_with fail
      go_ret
      rw [DoneR, e1]
      exact ⟨ret_bool (by rw [HB.out]; rfl), _, HH.out, Upd.refl _ _⟩
def TurnsR (L : DL) (r : Nat) (d' : Dv) (w : World) (v : Value) (e : Ending) (w' : World) : Prop := e = .returned v ∧ ∃ vs vp fl lf, RD L w' r d' vs vp fl lf ∧ Upd r w w'
set_option maxRecDepth 100000 in
theorem rfuse_any (L : DL) (r : Nat) (d : Dv) (vs vp : Value) (fl : Bool) (lf n : Int) (w : World) (h : RD L w r d vs vp fl lf) (h1 : -9223372036854775808 ≤ n) (h2 : n ≤ 9223372036854775807) :
    Calls Try.prog 25 #[.pointer (some ⟨r, 0, none⟩), .int .i64 n] w (TurnsR L r (d.setFuse n) w (.tuple #[])) := by
  obtain ⟨c0, c1, c2, c3, c4⟩ := h.row.cells5
  have f2 := h.row.fz 2
  have f3 := h.row.fz 3
  have HH := Lib.hid h
  clear h c0 c1 c4
  go_enter Try.func25, Try.ntmps25
  go_wp2_with fail
  go_end0
  have h := HH.out
  have hu := ((Upd.refl r w).put 2 (.bool (decide (0 ≤ n)))).put 3 (.int .i64 n)
  refine ⟨rfl, vs, vp, decide (0 ≤ n), n, h.put _ hu ?_ ?_ h.secs h.pend (Dv.setFuse_ok h.ok n h1 h2) h.cons, hu⟩
  · have := (h.row.put 2 (.bool (decide (0 ≤ n)))).put 3 (.int .i64 n)
    simpa [Dv.setFuse] using this
  · by_cases hn : 0 ≤ n
    · exact .inl ⟨by simp [hn], rfl, hn⟩
    · exact .inr ⟨by simp [hn], by show n < 0; omega⟩
theorem rlen_any (L : DL) (r : Nat) (d : Dv) (vs vp : Value) (fl : Bool) (lf : Int) (w : World) (h : RD L w r d vs vp fl lf) :
    Calls Try.prog 37 #[.pointer (some ⟨r, 0, none⟩)] w fun e w' => e = .returned (.int .i64 d.n) ∧ w = w' := by
  obtain ⟨c0, c1, c2, c3, c4⟩ := h.row.cells5
  obtain ⟨A, c, rfl, -, -⟩ := h.secs
  clear h c1 c2 c3 c4
  go_enter Try.func37, Try.ntmps37
  go_wp2_with fail
  go_ret
  exact ⟨rfl, rfl⟩
def sliceLen : Value → Nat
  | .slice _ n _ => n
  | _ => 0
theorem full_take (b : List UInt8) (m : Nat) (h1 : b.length ≤ m) (h2 : m < 256) : (full b).take m ++ [0] = (full b).take (m + 1) := by
  have hl : (full b).length = 256 := full_length b (by omega)
  rw [take_succ8 _ _ (by omega)]
  congr 2
  rw [at8_get _ _ (by omega)]
  simp only [full_def]
  rw [List.getElem_append_right h1]
  simp
set_option maxRecDepth 100000 in
theorem rfull_any (v : Value) (b : List UInt8) (w : World) (hv : Bs w v b) (hb : b.length ≤ 256) : Calls Try.prog 33 #[v] w (OwnRes 5 w (full b)) := by
  obtain ⟨A, c, rfl, -, -, -⟩ := id hv
  obtain ⟨N, hN⟩ : ∃ N, b.length = N := ⟨_, rfl⟩
  have HN := Lib.hid hN
  have hal : Below w.heap.size w (w.alloc (.cells #[] 5)) := (by repeat (first | with_reducible exact Below.refl _ _ | with_reducible assumption | refine Below.drew ?_ | refine below_drewN ?_ | refine Below.alloc ?_ (by first | omega | (simp; done) | (simp; omega)) _ | refine below_setRow ?_ (by omega) _ | refine Below.setCell ?_ (by first | omega | (simp; done) | (simp; omega)) _))
  have hb1 := hv.step hal
  have own0 := Own8.empty (T := 5) (g := w.heap.size) w (base := w.heap.size) rfl (Nat.le_refl _)
  have hfl := full_length b hb
  have hstart : (full b).take N = b := by rw [full_def, ← hN, List.take_left]
  have HST := Lib.hid hstart
  have HFL := Lib.hid hfl
  have HTK := Lib.hid (fun m => full_take b m)
  rw [hN] at hb1 hb ⊢
  clear hv hN hfl hstart
  go_enter Try.func33, Try.ntmps33
  go_wp2_with (at_builtin; refine wpList_appendBs Try.underlying29 Try.info8 rfl (.tmp 4) (.tmp 5) rfl w.heap.size rfl own0 rfl hb1 (List.nil_append _) HN.out (by omega) (by simp) ?_; intro A1 c1 w1 own1 bel1)
  go_loopw [3] (fun v wr => ∃ (m : Nat) (A : Option Addr) (c : Nat), N ≤ m ∧ m ≤ 256 ∧ v = .slice A m c ∧ Own8 5 wr w.heap.size (.slice A m c) ((full b).take m) ∧ Below w.heap.size w wr) (fun v _ => 256 - sliceLen v)
  case atStart => exact ⟨N, A1, c1, Nat.le_refl _, hb, rfl, by rw [HST.out]; exact own1, hal.trans bel1⟩
  case round =>
    clear own1 bel1 own0 hb1 hal
    obtain ⟨m, A2, c2, hm1, hm2, rfl, hown, hbel⟩ := hrel
    have hsz := hbel.size
    by_cases hlt : m < 256
    · have hlt' : (m : Int) < 256 := by omega
      have hq : Below wr.heap.size wr (wr.alloc (.cells #[.int .u8 0] 5)) := (by repeat (first | with_reducible exact Below.refl _ _ | with_reducible assumption | refine Below.drew ?_ | refine below_drewN ?_ | refine Below.alloc ?_ (by first | omega | (simp; done) | (simp; omega)) _ | refine below_setRow ?_ (by omega) _ | refine Below.setCell ?_ (by first | omega | (simp; done) | (simp; omega)) _))
      have hone : Bs (wr.alloc (.cells #[.int .u8 0] 5)) (.slice (some ⟨wr.heap.size, 0, none⟩) 1 1) [0] := Bs.one (i := 0) 0 (by go_simp) (by rw [n8_def]; rfl) (by simp)
      have own2 := hown.step hq
      have htk := HTK.out m (by rw [HN.out]; exact hm1) hlt
      have HT := Lib.hid htk
      have HLL := Lib.hid (show ((full b).take (m + 1)).length = m + 1 by rw [List.length_take, HFL.out]; omega)
      clear htk
      go_wp2_with (at_builtin; refine wpList_appendBs Try.underlying29 Try.info8 rfl (.tmp 10) (.tmp 11) rfl w.heap.size rfl own2 rfl hone HT.out HLL.out (by omega) (by simp; omega) ?_; intro A8 c8 w8 own8 bel8)
      exact ⟨⟨m + 1, _, _, by omega, by omega, rfl, own8, (hbel.trans (hq.mono hsz)).trans bel8⟩, by simp [sliceLen]; omega⟩
    · obtain rfl : m = 256 := by omega
      rw [List.take_of_length_le (by rw [HFL.out]; omega)] at hown
      go_wp2_with fail
      go_ret
      exact OwnRes.mk hown hbel
end Go.Proofs.Ytbfloejpgjheiaa
