/- Bytes as an opaque value: what a caller needs of a slice of bytes, and of a slice of those. No program. -/
import Derived.Test.YtopmdbmnlflpgaaDoorRow
namespace Go.Proofs.YtopmdbmnlflpgaaDoor
open Go.RowKit
theorem Below.pred {w1 w w' : World} (h : Below w1.heap.size w1 w) (hb : Below w.heap.size w w') : Below w1.heap.size w1 w' := h.trans (hb.mono h.size)
theorem RowIs.step {w w' : World} {g : Nat} {cs : Array Value} (h : RowIs w g cs) (hb : Below w.heap.size w w') : RowIs w' g cs := h.below hb h.lt
theorem RowIs.fz {w : World} {g : Nat} {cs : Array Value} (h : RowIs w g cs) (i : Nat) : w.frozen? ⟨g, i, none⟩ = false := by
  rw [h.eq]; exact frozen?_setRow w g cs i h.row
theorem RowIs.put {w : World} {g : Nat} {cs : Array Value} (h : RowIs w g cs) (i : Nat) (v : Value) : RowIs (w.setCell ⟨g, i, none⟩ v) g (cs.setIfInBounds i v) := by
  have e : w.setCell ⟨g, i, none⟩ v = w.setRow g (cs.setIfInBounds i v) := by
    conv => lhs; rw [h.eq]
    exact setCell_setRow w g cs i v
  rw [e]; exact h.set _
theorem RowIs.put_ne {w : World} {g : Nat} {cs : Array Value} (h : RowIs w g cs) {a : Addr} (hg : g ≠ a.block) (v : Value) : RowIs (w.setCell a v) g cs := by
  have e : (w.setCell a v).heap[g]? = w.heap[g]? := Below.heap_setCell _ _ _ _ hg
  exact ⟨by unfold IsRow; rw [e]; exact h.row, by unfold rowOf; rw [e]; exact h.has⟩
/-- the value is a slice that reads these bytes -/
def Bs (w : World) (v : Value) (l : List UInt8) : Prop := ∃ A c, v = .slice A l.length c ∧ l.length ≤ c ∧ l.length ≤ 140737488351232 ∧ Rd8 w w.heap.size A l
theorem Bs.step {w w' : World} {v : Value} {l : List UInt8} (h : Bs w v l) (hb : Below w.heap.size w w') : Bs w' v l := by
  obtain ⟨A, c, h1, h2, h3, h4⟩ := h
  exact ⟨A, c, h1, h2, h3, h4.step hb⟩
theorem Bs.of {w : World} {A : Option Addr} {c : Nat} {l : List UInt8} (h2 : l.length ≤ c) (h3 : l.length ≤ 140737488351232) (h4 : Rd8 w w.heap.size A l) : Bs w (.slice A l.length c) l := ⟨A, c, rfl, h2, h3, h4⟩
theorem Bs.of' {w : World} {A : Option Addr} {n c : Nat} {l : List UInt8} (hn : l.length = n) (h2 : n ≤ c) (h3 : n ≤ 140737488351232) (h4 : Rd8 w w.heap.size A l) : Bs w (.slice A n c) l := ⟨A, c, by rw [hn], by omega, by omega, h4⟩
theorem Bs.nil (w : World) : Bs w (.slice none 0 0) [] := ⟨none, 0, rfl, Nat.le_refl _, by simp, Rd8.nil _ _ _⟩
theorem Bs.le {w : World} {v : Value} {l : List UInt8} (h : Bs w v l) : l.length ≤ 140737488351232 := by obtain ⟨_, _, _, _, h, _⟩ := h; exact h
theorem Bs.row {w : World} {g : Nat} {l : List UInt8} (h : RowIs w g (u8s l)) (n c : Nat) (hn : n = l.length) (hc : n ≤ c) (hm : n ≤ 140737488351232) : Bs w (.slice (some ⟨g, 0, none⟩) n c) l := by
  subst hn; exact ⟨_, c, rfl, hc, hm, h.rd⟩
theorem Bs.part {w : World} {g : Nat} {l : List UInt8} (h : RowIs w g (u8s l)) (o n c : Nat) (hn : o + n ≤ l.length) (hc : n ≤ c) (hm : n ≤ 140737488351232) : Bs w (.slice (some ⟨g, o, none⟩) n c) ((l.drop o).take n) := by
  have e : ((l.drop o).take n).length = n := by simp; omega
  exact Bs.of' e hc hm (rd8_part h o n)
theorem Bs.take {w : World} {A : Option Addr} {n c : Nat} {l : List UInt8} (h : Bs w (.slice A n c) l) (k : Nat) (hk : k ≤ n) : Bs w (.slice A k c) (l.take k) := by
  obtain ⟨A', c', h1, h2, h3, h4⟩ := h
  injection h1 with e1 e2 e3
  subst e1; subst e2; subst e3
  have e : (l.take k).length = k := by simp; omega
  exact Bs.of' e (by omega) (by omega) (h4.take k)
@[irreducible] def subA (A : Option Addr) (c k : Nat) : Option Addr := if c = k then A else A.map (·.add (k * 1))
theorem subA_def (A : Option Addr) (c k : Nat) : subA A c k = if c = k then A else A.map (·.add (k * 1)) := by unfold subA; rfl
theorem Rd8.sub {w : World} {B : Nat} {A : Option Addr} {l : List UInt8} (h : Rd8 w B A l) (c k : Nat) (hc : l.length ≤ c) (hk : k ≤ l.length) : Rd8 w B (subA A c k) (l.drop k) := by
  by_cases hn : (l.drop k).length = 0
  · rw [List.eq_nil_of_length_eq_zero hn]; exact Rd8.nil _ _ _
  · have hl : k < l.length := by simp at hn; omega
    rw [subA_def, if_neg (by omega)]
    intro _
    obtain ⟨g, o, rfl, hb, hcell⟩ := h (by omega)
    refine ⟨g, o + k, by simp [Addr.add], hb, fun i hi => ?_⟩
    have hi' : i < l.length - k := by simpa using hi
    rw [show o + k + i = o + (k + i) by omega, hcell (k + i) (by omega), at8_drop]
theorem Bs.drop {w : World} {A : Option Addr} {n c : Nat} {l : List UInt8} (h : Bs w (.slice A n c) l) (k : Nat) (hk : k ≤ n) : Bs w (.slice (subA A c k) (n - k) (c - k)) (l.drop k) := by
  obtain ⟨A', c', h1, h2, h3, h4⟩ := h
  injection h1 with e1 e2 e3
  subst e1; subst e2; subst e3
  have e : (l.drop k).length = l.length - k := by simp
  exact Bs.of' e (by omega) (by omega) (h4.sub c k h2 hk)
theorem run_from {P : Program} {t e : TypeId} (ht : P.underlying t = some (.slice e)) (hsz : (P.info? e).map (·.size) = some 1) (A : Option Addr) (n c k : Nat) (hk : k ≤ n) (w : World) :
    (Instr.sliceAt t (.slice A n c) (some (.int .i64 k)) none none).run P w = .ok (.slice (subA A c k) (n - k) (c - k)) w := by
  have he : P.elem t = e := by simp [Program.elem, ht]
  have ht' : P.underlying t = some (.slice (P.elem t)) := by rw [he]; exact ht
  obtain ⟨i, hi, hs⟩ := Option.map_eq_some_iff.1 hsz
  have hso : (sizeOf (P.elem t)).run P w = .ok 1 w := by rw [he]; simp [sizeOf, typeInfo, hi, hs]
  rw [run_sliceAt_slice (t := t) (h := ht'), run_slice_l (t := t) (a := A) (len := n) (cap := c) (ht := ht') (kl := .i64) (l := k) (h0 := by omega) (h1 := by omega), hso]
  simp only [Result.andThen, sliced, Int.toNat_natCast, subA_def]
theorem Bs.one {w : World} {g : Nat} (b : UInt8) {i : Int} (hc : w.cell? ⟨g, 0, none⟩ = some (.int .u8 i)) (hii : i = n8 b) (hg : g < w.heap.size) : Bs w (.slice (some ⟨g, 0, none⟩) 1 1) [b] := by
  refine Bs.of' rfl (Nat.le_refl _) (by omega) fun _ => ⟨g, 0, rfl, hg, fun i hi => ?_⟩
  obtain rfl : i = 0 := by simp at hi; omega
  rw [Nat.zero_add, hc, at8_get _ _ (by simp), hii]; rfl
theorem below_rules {w w' : World} (hb : Below w.heap.size w w') : (∀ p : Addr, p.block < w.heap.size → w'.cell? p = w.cell? p) ∧ (∀ g, g < w.heap.size → IsRow w' g = IsRow w g) ∧ (∀ g, g < w.heap.size → rowOf w' g = rowOf w g) :=
  ⟨fun p hp => hb.cell hp, fun g hg => by unfold IsRow; rw [hb.block g hg], fun g hg => by unfold rowOf; rw [hb.block g hg]⟩
/-- a call that hands back bytes and leaves all that was there -/
def BsRes (w : World) (l : List UInt8) (e : Ending) (w' : World) : Prop := ∃ v, e = .returned v ∧ Bs w' v l ∧ Below w.heap.size w w'
theorem OwnRes.bs {T : TypeId} {w w' : World} {l : List UInt8} {e : Ending} (h : OwnRes T w l e w') (hm : l.length ≤ 140737488351232) : BsRes w l e w' := by
  obtain ⟨A, c, rfl, h1, h2⟩ := h
  exact ⟨_, rfl, Bs.of h1.len.2 hm h1.rd, h2⟩
theorem RdRes.bs {w w' : World} {l : List UInt8} {e : Ending} (h : RdRes w l e w') (hm : l.length ≤ 140737488351232) : BsRes w l e w' := by
  obtain ⟨A, c, rfl, h1, h2, h3⟩ := h
  exact ⟨_, rfl, Bs.of h1 hm h2, h3⟩
@[irreducible] def nthL (ls : List (List UInt8)) (i : Nat) : List UInt8 := ls.getD i []
theorem nthL_def (ls : List (List UInt8)) (i : Nat) : nthL ls i = ls.getD i [] := by unfold nthL; rfl
/-- a slice of slices of bytes, read -/
def RdL (w : World) (g o : Nat) (ls : List (List UInt8)) : Prop :=
  g < w.heap.size ∧ ∀ i, i < ls.length → ∃ v, w.cell? ⟨g, o + i, none⟩ = some v ∧ Bs w v (nthL ls i)
theorem RdL.step {w w' : World} {g o : Nat} {ls : List (List UInt8)} (h : RdL w g o ls) (hb : Below w.heap.size w w') : RdL w' g o ls := by
  refine ⟨Nat.lt_of_lt_of_le h.1 hb.size, fun i hi => ?_⟩
  obtain ⟨v, h1, h3⟩ := h.2 i hi
  exact ⟨v, by rw [hb.cell (p := ⟨g, o + i, none⟩) h.1]; exact h1, h3.step hb⟩
def BsL (w : World) (v : Value) (ls : List (List UInt8)) : Prop := ∃ A c, v = .slice A ls.length c ∧ ls.length ≤ c ∧ ls.length ≤ 140737488351232 ∧ (0 < ls.length → ∃ g o, A = some ⟨g, o, none⟩ ∧ RdL w g o ls)
theorem BsL.step {w w' : World} {v : Value} {ls : List (List UInt8)} (h : BsL w v ls) (hb : Below w.heap.size w w') : BsL w' v ls := by
  obtain ⟨A, c, h1, h2, h3, h4⟩ := h
  refine ⟨A, c, h1, h2, h3, fun h0 => ?_⟩
  obtain ⟨g, o, h5, h6⟩ := h4 h0
  exact ⟨g, o, h5, h6.step hb⟩
theorem BsL.nil (w : World) : BsL w (.slice none 0 0) [] := ⟨none, 0, rfl, Nat.le_refl _, by simp, fun h => absurd h (by simp)⟩
/-- a literal slice of slices of bytes -/
theorem BsL.lit {w : World} {vs : List Value} {ls : List (List UInt8)} (T : TypeId) {gg : Nat} (hg : gg = w.heap.size) (n : Nat) (hn : vs.length = n) (hl : ls.length = n) (hm : n ≤ 1000) (h : ∀ i, i < n → ∃ v, vs[i]? = some v ∧ Bs w v (nthL ls i)) :
    BsL (w.alloc (.cells vs.toArray T)) (.slice (some ⟨gg, 0, none⟩) n n) ls := by
  subst hg
  refine ⟨_, n, by rw [hl], by omega, by omega, fun h0 => ⟨_, _, rfl, by simp, fun i hi => ?_⟩⟩
  obtain ⟨v, h1, h2⟩ := h i (by omega)
  refine ⟨v, ?_, h2.step ((Below.refl _ _).alloc (Nat.le_refl _) _)⟩
  rw [Nat.zero_add, cell_of_row _ _ _ vs.toArray T (0, 0) (heap_alloc_new w _)]
  simpa using h1
theorem BsL.lit1 {w : World} {v1 : Value} {l1 : List UInt8} (T : TypeId) {gg : Nat} (hg : gg = w.heap.size) (h1 : Bs w v1 l1) : BsL (w.alloc (.cells #[v1] T)) (.slice (some ⟨gg, 0, none⟩) 1 1) [l1] :=
  BsL.lit (vs := [v1]) T hg 1 rfl rfl (by omega) fun i hi => by
    obtain rfl : i = 0 := by omega
    exact ⟨v1, rfl, by simpa [nthL_def] using h1⟩
theorem BsL.lit2 {w : World} {v1 v2 : Value} {l1 l2 : List UInt8} (T : TypeId) {gg : Nat} (hg : gg = w.heap.size) (h1 : Bs w v1 l1) (h2 : Bs w v2 l2) : BsL (w.alloc (.cells #[v1, v2] T)) (.slice (some ⟨gg, 0, none⟩) 2 2) [l1, l2] :=
  BsL.lit (vs := [v1, v2]) T hg 2 rfl rfl (by omega) fun i hi => by
    have : i = 0 ∨ i = 1 := by omega
    rcases this with rfl | rfl
    · exact ⟨v1, rfl, by simpa [nthL_def] using h1⟩
    · exact ⟨v2, rfl, by simpa [nthL_def] using h2⟩
theorem BsL.lit3 {w : World} {v1 v2 v3 : Value} {l1 l2 l3 : List UInt8} (T : TypeId) {gg : Nat} (hg : gg = w.heap.size) (h1 : Bs w v1 l1) (h2 : Bs w v2 l2) (h3 : Bs w v3 l3) : BsL (w.alloc (.cells #[v1, v2, v3] T)) (.slice (some ⟨gg, 0, none⟩) 3 3) [l1, l2, l3] :=
  BsL.lit (vs := [v1, v2, v3]) T hg 3 rfl rfl (by omega) fun i hi => by
    have : i = 0 ∨ i = 1 ∨ i = 2 := by omega
    rcases this with rfl | rfl | rfl
    · exact ⟨v1, rfl, by simpa [nthL_def] using h1⟩
    · exact ⟨v2, rfl, by simpa [nthL_def] using h2⟩
    · exact ⟨v3, rfl, by simpa [nthL_def] using h3⟩
theorem BsL.lit4 {w : World} {v1 v2 v3 v4 : Value} {l1 l2 l3 l4 : List UInt8} (T : TypeId) {gg : Nat} (hg : gg = w.heap.size) (h1 : Bs w v1 l1) (h2 : Bs w v2 l2) (h3 : Bs w v3 l3) (h4 : Bs w v4 l4) : BsL (w.alloc (.cells #[v1, v2, v3, v4] T)) (.slice (some ⟨gg, 0, none⟩) 4 4) [l1, l2, l3, l4] :=
  BsL.lit (vs := [v1, v2, v3, v4]) T hg 4 rfl rfl (by omega) fun i hi => by
    have : i = 0 ∨ i = 1 ∨ i = 2 ∨ i = 3 := by omega
    rcases this with rfl | rfl | rfl | rfl
    · exact ⟨v1, rfl, by simpa [nthL_def] using h1⟩
    · exact ⟨v2, rfl, by simpa [nthL_def] using h2⟩
    · exact ⟨v3, rfl, by simpa [nthL_def] using h3⟩
    · exact ⟨v4, rfl, by simpa [nthL_def] using h4⟩
end Go.Proofs.YtopmdbmnlflpgaaDoor
