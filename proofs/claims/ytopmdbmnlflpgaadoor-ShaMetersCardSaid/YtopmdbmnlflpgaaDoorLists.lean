/- An argument that is a slice: its elements, one by one; and how many bytes it may take. -/
import Derived.Test.YtopmdbmnlflpgaaDoorArr
import Derived.Test.YtopmdbmnlflpgaaDoorBs
import Derived.Lib.SmallJoins
namespace Go.Proofs.YtopmdbmnlflpgaaDoor
open Go.ChangeShapes Go.WideShapes Go.ChangeAt Go.RowKit
section
variable {P : Program} {H : Type} {enc : TypeId × Value → H} {w : World} {base : Nat} {spare : Nat → Bool} {held : Bool} {r : Reach} {b0 fuel : Nat} {t e : TypeId} {v : Value} {d : DataW H} {ps : List MemPlace} {x : DataW H × List MemPlace} {k : Nat}
theorem cells_at {a : Addr} {cs : List Value} {n : Nat} (h : w.cells? base a n = some cs) : cs.length = n ∧ ∀ j, j < n → w.cell? (a.add j) = cs[j]? := by
  unfold World.cells? at h
  split at h
  · have hl := WideShapes.mapM_each h
    have := Go.mapM_some_length h
    refine ⟨by simpa using this, fun j hj => ?_⟩
    exact Go.mapM_some_get h j j (by simp [hj])
  · cases h
/-- a slice's elements, each with its reading -/
def Elems (P : Program) {H : Type} (enc : TypeId × Value → H) (w : World) (base : Nat) (spare : Nat → Bool) (held : Bool) (e : TypeId) (k : Nat) (A : Option Addr) (n : Nat) : Prop :=
  0 < n → ∃ g o, A = some ⟨g, o, none⟩ ∧ g < w.heap.size ∧ ∀ i, i < n → ∃ cs y fuel, cs.length = k ∧ (∀ j, j < k → w.cell? ⟨g, o + (i * k + j), none⟩ = cs[j]?) ∧ DataW.trod enc P w base spare held fuel e cs = some y
theorem elems_of (ht : P.underlying t = some (.slice e)) (hk : P.cellsOf e = k) (hk0 : 0 < k) {a : Option Addr} {n c : Nat} (h : DataW.trod enc P w base spare held fuel t [.slice a n c] = some x) :
    n ≤ c ∧ Elems P enc w base spare held e k a n := by
  rcases DataW.trod_slice ht h with ⟨hcs, _⟩ | ⟨a', len, cap, elems, rest, m, _, hcs, _, _, hlc, _, hlen, hel, _⟩
  · simp at hcs
    obtain ⟨rfl, rfl, rfl⟩ := hcs
    exact ⟨Nat.le_refl _, fun h => absurd h (by omega)⟩
  · simp at hcs
    obtain ⟨rfl, rfl, rfl⟩ := hcs
    refine ⟨hlc, fun hn => ?_⟩
    rw [hk] at hel
    have get : ∀ i, i < n → ∃ cs y, w.cells? base (a'.add (i * k)) k = some cs ∧ DataW.trod enc P w base spare held m e cs = some y := fun i hi => by
      have h1 := hel i hi
      rw [List.getElem?_eq_getElem (by omega)] at h1
      cases hcs : w.cells? base (a'.add (i * k)) k with
      | none => rw [hcs] at h1; cases h1
      | some cs => rw [hcs] at h1; exact ⟨cs, _, rfl, h1⟩
    have hs : a'.spot = none ∧ a'.block < w.heap.size := by
      obtain ⟨cs, y, h1, _⟩ := get 0 hn
      obtain ⟨hl, hc⟩ := cells_at h1
      have h2 := hc 0 hk0
      have e0 : (a'.add (0 * k)).add 0 = a' := by
        unfold Addr.add
        cases a' with
        | mk b o s => cases s <;> simp
      rw [e0, List.getElem?_eq_getElem (by omega)] at h2
      exact ⟨spot_none h2, World.block_lt_of_cell? w _ h2⟩
    refine ⟨a'.block, a'.off, by cases a'; simp_all, hs.2, fun i hi => ?_⟩
    obtain ⟨cs, y, h1, h2⟩ := get i hi
    obtain ⟨hl, hc⟩ := cells_at h1
    refine ⟨cs, y, m, hl, fun j hj => ?_, h2⟩
    rw [← hc j hj, add_at _ hs.1, add_at _ rfl, Nat.add_assoc]
theorem trod_bytes (ht : P.underlying t = some (.slice e)) (he : P.underlying e = some (.int .u8)) (hc : P.cellsOf e = 1) {A : Option Addr} {n c : Nat} (h : DataW.trod enc P w base spare held fuel t [.slice A n c] = some x) :
    ∃ l : List UInt8, n = l.length ∧ n ≤ c ∧ Rd8 w w.heap.size A l := by
  obtain ⟨hnc, hel⟩ := elems_of ht hc (by omega) h
  by_cases hn : 0 < n
  · obtain ⟨g, o, rfl, hg, hcs⟩ := hel hn
    have hex : ∀ i, ∃ u : UInt8, i < n → w.cell? ⟨g, o + i, none⟩ = some (.int .u8 (n8 u)) := fun i => by
      by_cases hi : i < n
      · obtain ⟨cs, y, fu, hl, hc1, hy⟩ := hcs i hi
        obtain ⟨z, rfl, _, hw⟩ := DataW.trod_int he hy
        obtain ⟨u, rfl⟩ := wf8 hw
        exact ⟨u, fun _ => by have := hc1 0 (by omega); simpa using this⟩
      · exact ⟨0, fun h => absurd h hi⟩
    let f : Nat → UInt8 := fun i => Classical.choose (hex i)
    refine ⟨(List.range n).map f, by simp, hnc, fun _ => ⟨g, o, rfl, hg, fun i hi => ?_⟩⟩
    have hi' : i < n := by simpa using hi
    rw [at8_map _ _ _ hi']
    exact Classical.choose_spec (hex i) hi'
  · obtain rfl : n = 0 := by omega
    exact ⟨[], rfl, hnc, Rd8.nil _ _ _⟩
theorem cellsOf_slice1 {cs : List Value} (ht : P.underlying t = some (.slice e)) (h : DataW.trod enc P w base spare held fuel t cs = some x) : ∃ A n c, cs = [.slice A n c] := by
  rcases DataW.trod_slice ht h with ⟨rfl, _⟩ | ⟨a, len, cap, elems, rest, n, _, rfl, _⟩
  · exact ⟨none, 0, 0, rfl⟩
  · exact ⟨some a, len, cap, rfl⟩
theorem trod_boolW {cs : List Value} (ht : P.underlying t = some .bool) (h : DataW.trod enc P w base spare held fuel t cs = some x) : ∃ b : Bool, cs = [.bool b] := by
  cases fuel with
  | zero => simp [DataW.trod] at h
  | succ n =>
    unfold DataW.trod at h
    rw [ht] at h
    split at h <;> simp_all
end
end Go.Proofs.YtopmdbmnlflpgaaDoor
