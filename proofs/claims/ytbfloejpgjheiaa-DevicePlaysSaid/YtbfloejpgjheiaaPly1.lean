/- Layer 11, the document's device: where it lies, beside a device. -/
import Derived.Test.YtbfloejpgjheiaaDev10
import Derived.Test.YtbfloejpgjheiaaUpd
import Derived.Test.YtbfloejpgjheiaaDWhole
namespace Go.Proofs.Ytbfloejpgjheiaa
open Go.RowKit
/-- the last pending write of a sector -/
def lastP (ps : List (Nat × List UInt8)) (j : Nat) (z : List UInt8) : List UInt8 := ps.foldl (fun a p => if p.1 = j then p.2 else a) z
theorem lastP_app (ps : List (Nat × List UInt8)) (p : Nat × List UInt8) (j : Nat) (z : List UInt8) : lastP (ps ++ [p]) j z = if p.1 = j then p.2 else lastP ps j z := by unfold lastP; rw [List.foldl_append]; rfl
/-- two devices' lands: L turns (to L'), block r may turn, all else stays -/
structure Mv (L L' : DL) (r : Nat) (w w' : World) : Prop where
  size : w.heap.size ≤ w'.heap.size
  same : ∀ k, k < w.heap.size → ¬ L.has k → k ≠ r → w'.heap[k]? = w.heap[k]?
  has : ∀ k, L'.has k → L.has k ∨ w.heap.size ≤ k
theorem Mv.dev {L L' : DL} {d' : Dv} {r : Nat} {w w' : World} (t : DevTo L L' d' w w') : Mv L L' r w w' := ⟨t.upx.size, fun k hk hl _ => t.upx.block k hk hl, t.has⟩
theorem Mv.upd {L : DL} {r : Nat} {w w' : World} (h : Upd r w w') : Mv L L r w w' := ⟨h.size, fun k hk _ hr => h.block k hk hr, fun _ h => .inl h⟩
theorem Mv.below {L : DL} {r : Nat} {w w' : World} (h : Below w.heap.size w w') : Mv L L r w w' := ⟨h.size, fun k hk _ _ => h.block k hk, fun _ h => .inl h⟩
theorem Side.mv {L L' : DL} {r : Nat} {w w' : World} {v : Value} {l : List UInt8} (h : Side w L v l) (hr : No8 w r) (m : Mv L L' r w w') : Side w' L' v l := by
  have hs := m.size
  have hne : ∀ g o, (∀ j, j < l.length → w.cell? ⟨g, o + j, none⟩ = some (.int .u8 (n8 (at8 l j)))) → 0 < l.length → g ≠ r := fun g o hc h0 e => hr _ _ (by rw [← e]; exact hc 0 h0)
  refine ⟨?_, fun h0 g o n c e hk => ?_⟩
  · obtain ⟨A, c, rfl, h1, h2, hr'⟩ := h.bs
    refine ⟨A, c, rfl, h1, h2, fun h0 => ?_⟩
    obtain ⟨g, o, rfl, hg, hc⟩ := hr' h0
    have hg' : g < w.heap.size := hg
    refine ⟨g, o, rfl, by omega, fun j hj => ?_⟩
    rw [World.cell?_of_block (w := w) (m.same g hg' (h.off h0 g o _ _ rfl) (hne g o hc h0))]
    exact hc j hj
  · obtain ⟨g', o', c', e', hg⟩ := h.bs.block h0
    rw [e'] at e
    injection e with e
    injection e with e
    injection e with e
    subst e
    rcases m.has g' hk with h1 | h1
    · exact h.off h0 g' o' _ _ e' h1
    · omega
def Secs (L : DL) (w : World) (r : Nat) (vs : Value) (n : Nat) (S : List UInt8) : Prop := ∃ A c, vs = .slice A n c ∧ n ≤ c ∧ (0 < n → ∃ g, A = some ⟨g, 0, none⟩ ∧ g < w.heap.size ∧ ¬ L.has g ∧ g ≠ r ∧ ∀ j, j < n → ∃ v, w.cell? ⟨g, j, none⟩ = some v ∧ Side w L v (sect S j))
def Pend (L : DL) (w : World) (r : Nat) (vp : Value) (ps : List (Nat × List UInt8)) : Prop := ∃ A c, vp = .slice A ps.length c ∧ ps.length ≤ c ∧ (0 < ps.length → ∃ g, A = some ⟨g, 0, none⟩ ∧ g < w.heap.size ∧ ¬ L.has g ∧ g ≠ r ∧ ∀ k, k < ps.length → ∃ v, w.cell? ⟨g, k * 2, none⟩ = some (.int .i64 (ps.getD k (0, [])).1) ∧ w.cell? ⟨g, k * 2 + 1, none⟩ = some v ∧ Side w L v (ps.getD k (0, [])).2)
theorem Secs.mv {L L' : DL} {r n : Nat} {w w' : World} {vs : Value} {S : List UInt8} (h : Secs L w r vs n S) (hr : No8 w r) (m : Mv L L' r w w') : Secs L' w' r vs n S := by
  obtain ⟨A, c, e, hc, h1⟩ := h
  refine ⟨A, c, e, hc, fun h0 => ?_⟩
  obtain ⟨g, e1, hg, hl, hgr, hj⟩ := h1 h0
  refine ⟨g, e1, by have := m.size; omega, fun hk => ?_, hgr, fun j hjn => ?_⟩
  · rcases m.has g hk with h | h
    · exact hl h
    · omega
  · obtain ⟨v, h2, h3⟩ := hj j hjn
    exact ⟨v, by rw [World.cell?_of_block (w := w) (m.same g hg hl hgr)]; exact h2, h3.mv hr m⟩
theorem Pend.mv {L L' : DL} {r : Nat} {w w' : World} {vp : Value} {ps : List (Nat × List UInt8)} (h : Pend L w r vp ps) (hr : No8 w r) (m : Mv L L' r w w') : Pend L' w' r vp ps := by
  obtain ⟨A, c, e, hc, h1⟩ := h
  refine ⟨A, c, e, hc, fun h0 => ?_⟩
  obtain ⟨g, e1, hg, hl, hgr, hj⟩ := h1 h0
  refine ⟨g, e1, by have := m.size; omega, fun hk => ?_, hgr, fun j hjn => ?_⟩
  · rcases m.has g hk with h | h
    · exact hl h
    · omega
  · obtain ⟨v, h2, h3, h4⟩ := hj j hjn
    have e := m.same g hg hl hgr
    exact ⟨v, by rw [World.cell?_of_block (w := w) e]; exact h2, by rw [World.cell?_of_block (w := w) e]; exact h3, h4.mv hr m⟩
theorem Pend.nil (L : DL) (w : World) (r : Nat) : Pend L w r (.slice none 0 0) [] := ⟨none, 0, rfl, Nat.le_refl _, fun h => by simp at h⟩
/-- armed, and how much is left -/
def FuseR (f : Int) (fl : Bool) (lf : Int) : Prop := (fl = true ∧ lf = f ∧ 0 ≤ f) ∨ (fl = false ∧ f < 0)
structure RD (L : DL) (w : World) (r : Nat) (d : Dv) (vs vp : Value) (fl : Bool) (lf : Int) : Prop where
  row : RowIs w r #[vs, vp, .bool fl, .int .i64 lf, .bool d.down]
  fuse : FuseR d.fuse fl lf
  secs : Secs L w r vs d.n d.sure
  pend : Pend L w r vp d.pend
  off : ¬ L.has r
  ok : d.Ok
  cons : ∀ j, j < d.n → sect d.seen j = lastP d.pend j (sect d.sure j)
theorem RD.no8 {L : DL} {w : World} {r : Nat} {d : Dv} {vs vp : Value} {fl : Bool} {lf : Int} (h : RD L w r d vs vp fl lf) : No8 w r := by
  obtain ⟨A, c, rfl, _⟩ := h.secs
  obtain ⟨A2, c2, rfl, _⟩ := h.pend
  exact no8_row h.row (by simp)
/-- one's own device goes on: the document's stays -/
theorem RD.dev {L L' : DL} {w w' : World} {r : Nat} {d d' : Dv} {vs vp : Value} {fl : Bool} {lf : Int} (h : RD L w r d vs vp fl lf) (t : DevTo L L' d' w w') : RD L' w' r d vs vp fl lf :=
  ⟨h.row.upx t.upx h.off, h.fuse, h.secs.mv h.no8 (Mv.dev t), h.pend.mv h.no8 (Mv.dev t), fun hk => by
    rcases t.has r hk with h1 | h1
    · exact h.off h1
    · have := h.row.lt; omega, h.ok, h.cons⟩
theorem RD.step {L : DL} {w w' : World} {r : Nat} {d : Dv} {vs vp : Value} {fl : Bool} {lf : Int} (h : RD L w r d vs vp fl lf) (hb : Below w.heap.size w w') : RD L w' r d vs vp fl lf :=
  ⟨h.row.step hb, h.fuse, h.secs.mv h.no8 (Mv.below hb), h.pend.mv h.no8 (Mv.below hb), h.off, h.ok, h.cons⟩
/-- the row alone is written -/
theorem RD.put {L : DL} {w : World} {r : Nat} {d d' : Dv} {vs vp vs' vp' : Value} {fl fl' : Bool} {lf lf' : Int} (h : RD L w r d vs vp fl lf) (w' : World) (hw : Upd r w w') (hrow : RowIs w' r #[vs', vp', .bool fl', .int .i64 lf', .bool d'.down])
    (hf : FuseR d'.fuse fl' lf') (hs : Secs L w r vs' d'.n d'.sure) (hp : Pend L w r vp' d'.pend) (hok : d'.Ok) (hc : ∀ j, j < d'.n → sect d'.seen j = lastP d'.pend j (sect d'.sure j)) : RD L w' r d' vs' vp' fl' lf' :=
  ⟨hrow, hf, hs.mv h.no8 (Mv.upd hw), hp.mv h.no8 (Mv.upd hw), h.off, hok, hc⟩
end Go.Proofs.Ytbfloejpgjheiaa
