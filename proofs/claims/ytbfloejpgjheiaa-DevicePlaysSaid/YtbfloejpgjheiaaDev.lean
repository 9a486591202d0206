/- Layer 11: a device in memory; what only looks at it, and what turns its two last fields. -/
import Derived.Test.YtbfloejpgjheiaaDevP
import Derived.Test.YtbfloejpgjheiaaFacts
import Derived.Test.YtbfloejpgjheiaaAppBs
namespace Go.Proofs.Ytbfloejpgjheiaa
open Go.RowKit
/-- all that was there stays, but for the blocks of X -/
structure Upx (X : Nat → Prop) (w w' : World) : Prop where
  os : w'.os = w.os
  tape : w'.tape = w.tape
  output : w'.output = w.output
  size : w.heap.size ≤ w'.heap.size
  block : ∀ k, k < w.heap.size → ¬ X k → w'.heap[k]? = w.heap[k]?
theorem Upx.of {X : Nat → Prop} {w w' : World} (h : Below w.heap.size w w') : Upx X w w' := ⟨h.os, h.tape, h.output, h.size, fun k hk _ => h.block k hk⟩
theorem Upx.refl (X : Nat → Prop) (w : World) : Upx X w w := Upx.of (Below.refl _ _)
theorem Upx.trans' {X Y : Nat → Prop} {a b c : World} (h : Upx X a b) (k : Upx Y b c) (hY : ∀ i, i < a.heap.size → Y i → X i) : Upx X a c :=
  ⟨k.os.trans h.os, k.tape.trans h.tape, k.output.trans h.output, Nat.le_trans h.size k.size, fun i hi hx => (k.block i (Nat.lt_of_lt_of_le hi h.size) (fun hy => hx (hY i hi hy))).trans (h.block i hi hx)⟩
theorem Upx.trans {X : Nat → Prop} {a b c : World} (h : Upx X a b) (k : Upx X b c) : Upx X a c := h.trans' k fun _ _ h => h
theorem Upx.mono {X Y : Nat → Prop} {a b : World} (h : Upx X a b) (hY : ∀ i, i < a.heap.size → X i → Y i) : Upx Y a b := ⟨h.os, h.tape, h.output, h.size, fun i hi hy => h.block i hi (fun hx => hy (hY i hi hx))⟩
theorem Upx.then {X : Nat → Prop} {a b c : World} (h : Upx X a b) (hb : Below b.heap.size b c) : Upx X a c := h.trans (Upx.of hb)
theorem Upx.put {X : Nat → Prop} (w : World) {g : Nat} (hg : X g) (i : Nat) (v : Value) : Upx X w (w.setCell ⟨g, i, none⟩ v) :=
  ⟨rfl, rfl, rfl, by simp [World.setCell], fun k _ hk => Below.heap_setCell _ _ _ _ (fun e => hk (by rw [e]; exact hg))⟩
theorem Upx.row {X : Nat → Prop} (w : World) {g : Nat} (hg : X g) (cs : Array Value) : Upx X w (w.setRow g cs) :=
  ⟨rfl, rfl, rfl, by simp [World.setRow], fun k _ hk => by
    simp only [World.setRow, Array.getElem?_modify]
    rw [if_neg (fun e => hk (by rw [← e]; exact hg))]⟩
theorem Upx.grown {X : Nat → Prop} {w w' : World} {row : Option Nat} (h : w.grownBy w' row) (hr : ∀ k, row = some k → X k) : Upx X w w' :=
  ⟨h.os, h.tape, h.output, h.size, fun k hk hx => h.block k hk (fun e => hx (hr k e.symm))⟩
theorem Upx.below {X : Nat → Prop} {B : Nat} {a w w' : World} (hb : Below B a w) (h : Upx X w w') (hX : ∀ k, X k → B ≤ k) (hB : B ≤ w.heap.size) : Below B a w' :=
  hb.trans ⟨h.os, h.tape, h.output, h.size, fun k hk => h.block k (by omega) (fun hx => by have := hX k hx; omega)⟩
theorem Upx.cell {X : Nat → Prop} {w w' : World} (h : Upx X w w') {p : Addr} (hp : p.block < w.heap.size) (hx : ¬ X p.block) : w'.cell? p = w.cell? p := World.cell?_of_block (w := w) (h.block p.block hp hx)
theorem RowIs.upx {X : Nat → Prop} {w w' : World} {r : Nat} {cs : Array Value} (h : RowIs w r cs) (hu : Upx X w w') (hx : ¬ X r) : RowIs w' r cs := by
  have e := hu.block r h.lt hx
  exact ⟨by unfold IsRow; rw [e]; exact h.row, by unfold rowOf; rw [e]; exact h.has⟩
theorem RowIs.cells5 {w : World} {g : Nat} {a b c d e : Value} (h : RowIs w g #[a, b, c, d, e]) :
    w.cell? ⟨g, 0, none⟩ = some a ∧ w.cell? ⟨g, 1, none⟩ = some b ∧ w.cell? ⟨g, 2, none⟩ = some c ∧ w.cell? ⟨g, 3, none⟩ = some d ∧ w.cell? ⟨g, 4, none⟩ = some e := by
  obtain ⟨t, ht⟩ := h.row.heap
  rw [h.has] at ht
  refine ⟨?_, ?_, ?_, ?_, ?_⟩ <;> rw [cell_of_row w g _ _ t (0, 0) ht] <;> rfl
/-- one that is pending, in cells -/
def pcell (p : Nat × List UInt8) : List Value := Value.int .i64 p.1 :: u8v p.2
def pcells (ps : List (Nat × List UInt8)) : List Value := ps.flatMap pcell
def OwnP (w : World) (vp : Value) (ps : List (Nat × List UInt8)) : Prop := w.ownsRow 0 61 257 vp ps.length (pcells ps)
/-- where a device lies -/
structure DL where
  g : Nat
  bs : Nat
  cs : Nat
  js : List UInt8
  bu : Nat
  cu : Nat
  ju : List UInt8
  vp : Value
def DL.has (L : DL) (k : Nat) : Prop := k = L.g ∨ k = L.bs ∨ k = L.bu ∨ L.vp.ownBlock = some k
structure Dev (w : World) (L : DL) (d : Dv) : Prop where
  row : RowIs w L.g #[.slice (some ⟨L.bs, 0, none⟩) d.n L.cs, .slice (some ⟨L.bu, 0, none⟩) d.n L.cu, L.vp, .int .i64 d.fuse, .bool d.down]
  seen : RowIs w L.bs (u8s (d.seen ++ L.js))
  sure : RowIs w L.bu (u8s (d.sure ++ L.ju))
  pend : OwnP w L.vp d.pend
  ok : d.Ok
  hcs : d.n ≤ L.cs
  hcu : d.n ≤ L.cu
  n1 : L.bs ≠ L.g
  n2 : L.bu ≠ L.g
  n3 : L.bs ≠ L.bu
  n4 : ∀ k, L.vp.ownBlock = some k → k ≠ L.g ∧ k ≠ L.bs ∧ k ≠ L.bu
theorem OwnP.lt {w : World} {vp : Value} {ps : List (Nat × List UInt8)} (h : OwnP w vp ps) {k : Nat} (hk : vp.ownBlock = some k) : k < w.heap.size := (World.ownsRow.lt h k hk).2
theorem Dev.lt {w : World} {L : DL} {d : Dv} (h : Dev w L d) {k : Nat} (hk : L.has k) : k < w.heap.size := by
  rcases hk with rfl | rfl | rfl | hk
  · exact h.row.lt
  · exact h.seen.lt
  · exact h.sure.lt
  · exact h.pend.lt hk
theorem OwnP.keep {w w' : World} {vp : Value} {ps : List (Nat × List UInt8)} (h : OwnP w vp ps) (hb : ∀ k, vp.ownBlock = some k → w'.heap[k]? = w.heap[k]?) : OwnP w' vp ps := by
  obtain ⟨h1, h2⟩ := h
  refine ⟨h1, ?_⟩
  rcases h2 with h2 | ⟨g, cap, cur, hv, hg, hh, r⟩
  · exact .inl h2
  · refine .inr ⟨g, cap, cur, hv, hg, ?_, r⟩
    rw [hb g (by rw [hv]; rfl)]; exact hh
theorem Dev.keep {w w' : World} {L : DL} {d : Dv} (h : Dev w L d) (hb : ∀ k, L.has k → w'.heap[k]? = w.heap[k]?) : Dev w' L d := by
  have row : ∀ r cs, L.has r → RowIs w r cs → RowIs w' r cs := fun r cs hr hc => by
    have e := hb r hr
    exact ⟨by unfold IsRow; rw [e]; exact hc.row, by unfold rowOf; rw [e]; exact hc.has⟩
  exact ⟨row _ _ (.inl rfl) h.row, row _ _ (.inr (.inl rfl)) h.seen, row _ _ (.inr (.inr (.inl rfl))) h.sure, h.pend.keep fun k hk => hb k (.inr (.inr (.inr hk))), h.ok, h.hcs, h.hcu, h.n1, h.n2, h.n3, h.n4⟩
theorem Dev.step {w w' : World} {L : DL} {d : Dv} (h : Dev w L d) (hb : Below w.heap.size w w') : Dev w' L d := h.keep fun k hk => hb.block k (h.lt hk)
/-- another device's doings -/
theorem Dev.upx {X : Nat → Prop} {w w' : World} {L : DL} {d : Dv} (h : Dev w L d) (hu : Upx X w w') (hx : ∀ k, L.has k → ¬ X k) : Dev w' L d := h.keep fun k hk => hu.block k (h.lt hk) (hx k hk)
/-- a device goes on -/
structure DevTo (L L' : DL) (d' : Dv) (w w' : World) : Prop where
  g : L'.g = L.g
  dev : Dev w' L' d'
  upx : Upx L.has w w'
  has : ∀ k, L'.has k → L.has k ∨ w.heap.size ≤ k
theorem DevTo.mk1 {L : DL} {d' : Dv} {w w' : World} (h : Dev w' L d') (hu : Upx L.has w w') : DevTo L L d' w w' := ⟨rfl, h, hu, fun _ h => .inl h⟩
theorem DevTo.trans {L L' L'' : DL} {d d' : Dv} {a b c : World} (h : DevTo L L' d a b) (k : DevTo L' L'' d' b c) : DevTo L L'' d' a c :=
  ⟨k.g.trans h.g, k.dev, h.upx.trans' k.upx (fun i hi hx => (h.has i hx).resolve_right (by omega)), fun i hi => by
    rcases k.has i hi with h1 | h1
    · exact h.has i h1
    · right; have := h.upx.size; omega⟩
theorem DevTo.then {L L' : DL} {d : Dv} {a b c : World} (h : DevTo L L' d a b) (hb : Below b.heap.size b c) : DevTo L L' d a c := ⟨h.g, h.dev.step hb, h.upx.then hb, h.has⟩
theorem Dev.setFuse {w : World} {L : DL} {d : Dv} (h : Dev w L d) (f : Int) (h1 : -9223372036854775808 ≤ f) (h2 : f ≤ 9223372036854775807) : DevTo L L (d.setFuse f) w (w.setCell ⟨L.g, 3, none⟩ (.int .i64 f)) := by
  refine DevTo.mk1 ?_ (Upx.put w (.inl rfl) 3 _)
  refine ⟨?_, h.seen.put_ne h.n1 _, h.sure.put_ne h.n2 _, h.pend.keep fun k hk => Below.heap_setCell _ _ _ _ (h.n4 k hk).1, Dv.setFuse_ok h.ok f h1 h2, h.hcs, h.hcu, h.n1, h.n2, h.n3, h.n4⟩
  have := h.row.put 3 (.int .i64 f)
  simpa [Dv.setFuse] using this
theorem Dev.setDown {w : World} {L : DL} {d : Dv} (h : Dev w L d) (b : Bool) : DevTo L L { d with down := b } w (w.setCell ⟨L.g, 4, none⟩ (.bool b)) := by
  refine DevTo.mk1 ?_ (Upx.put w (.inl rfl) 4 _)
  refine ⟨?_, h.seen.put_ne h.n1 _, h.sure.put_ne h.n2 _, h.pend.keep fun k hk => Below.heap_setCell _ _ _ _ (h.n4 k hk).1, ⟨h.ok.n1, h.ok.n6, h.ok.seen, h.ok.sure, h.ok.pend, h.ok.lo, h.ok.hi⟩, h.hcs, h.hcu, h.n1, h.n2, h.n3, h.n4⟩
  have := h.row.put 4 (.bool b)
  simpa using this
def DoneRes (L : DL) (d : Dv) (w : World) (e : Ending) (w' : World) : Prop := e = .returned (.bool (!d.tick.down)) ∧ DevTo L L d.tick w w'
theorem done_any (L : DL) (d : Dv) (w : World) (h : Dev w L d) : Calls Try.prog 29 #[.pointer (some ⟨L.g, 0, none⟩)] w (DoneRes L d w) := by
  obtain ⟨c0, c1, c2, c3, c4⟩ := h.row.cells5
  have f3 := h.row.fz 3
  have f4 := h.row.fz 4
  have lo := h.ok.lo
  have hi := h.ok.hi
  obtain ⟨f, hf⟩ : ∃ f, f = d.fuse := ⟨_, rfl⟩
  obtain ⟨b, hb⟩ : ∃ b, b = d.down := ⟨_, rfl⟩
  rw [← hf] at c3 lo hi
  rw [← hb] at c4
  have HF := Lib.hid hf
  have HB := Lib.hid hb
  clear hf hb c0 c1 c2
  by_cases h0 : f = 0
  · subst h0
    go_enter Try.func29, Try.ntmps29
    go_wp2_with fail
    go_ret
    have e : d.tick = { d with down := true } := by unfold Dv.tick; simp [← HF.out]
    rw [DoneRes, e]
    exact ⟨rfl, h.setDown true⟩
  · by_cases hp : 0 < f
    · have hn : (f == 0) = false := by simpa using h0
      go_enter Try.func29, Try.ntmps29
      go_wp2_with fail
      go_ret
      have e : d.tick = d.setFuse (f - 1) := by unfold Dv.tick Dv.setFuse; rw [← HF.out]; simp [h0, hp]
      rw [DoneRes, e]
      exact ⟨ret_bool (by rw [show (d.setFuse (f - 1)).down = b from HB.out.symm]), h.setFuse (f - 1) (by omega) (by omega)⟩
    · have hn : (f == 0) = false := by simpa using h0
      go_enter Try.func29, Try.ntmps29
      go_wp2_with fail
      go_ret
      have e : d.tick = d := by
        have hf := HF.out
        unfold Dv.tick
        cases d
        simp only at hf
        subst hf
        have hp' : ¬ (0 < f) := by omega
        simp [h0, hp']
      rw [DoneRes, e]
      exact ⟨ret_bool (by rw [HB.out]), DevTo.mk1 h (Upx.refl _ _)⟩
end Go.Proofs.Ytbfloejpgjheiaa
