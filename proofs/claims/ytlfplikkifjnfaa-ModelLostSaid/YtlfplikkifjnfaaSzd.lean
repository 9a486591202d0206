/- An argument's parts, each with the bound on the bytes that it takes: the form's own reach. No program. -/
import Derived.Test.YtlfplikkifjnfaaLists
import Derived.SizedLaws
namespace Go.Proofs.Ytlfplikkifjnfaa
open Go.ChangeShapes Go.WideShapes Go.ChangeAt Go.RowKit
/-- all that it takes is within reach -/
def Light {H : Type} (P : Program) (t : TypeId) (d : DataW H) : Prop := ∀ n ∈ d.weights P t, n ≤ reachBytes
section
variable {P : Program} {H : Type} {enc : TypeId × Value → H} {w : World} {base : Nat} {spare : Nat → Bool} {held : Bool} {fuel : Nat} {t e : TypeId} {d : DataW H} {x : DataW H × List MemPlace} {k : Nat}
theorem light_arg {ts : List TypeId} {ds : List (DataW H)} {j : Nat} (h : (DataW.weightsEach P ts ds).all (· ≤ reachBytes) = true) (ht : ts[j]? = some t) (hd : ds[j]? = some d) : Light P t d := fun n hn => by
  have := List.all_eq_true.1 h _ (DataW.weights_mem_each ht hd n hn)
  simpa using this
theorem weightsAll_mem : ∀ {ds : List (DataW H)} {d : DataW H}, d ∈ ds → ∀ n ∈ d.weights P e, n ∈ DataW.weightsAll P e ds
  | a :: ds, d, hd, n, hn => by
    rw [DataW.weightsAll, List.mem_append]
    rcases List.mem_cons.1 hd with rfl | hd
    · exact .inl hn
    · exact .inr (weightsAll_mem hd n hn)
def ElemsL (P : Program) {H : Type} (enc : TypeId × Value → H) (w : World) (base : Nat) (spare : Nat → Bool) (held : Bool) (e : TypeId) (k : Nat) (A : Option Addr) (n : Nat) : Prop :=
  0 < n → ∃ g o, A = some ⟨g, o, none⟩ ∧ g < w.heap.size ∧ ∀ i, i < n → ∃ cs y fuel, cs.length = k ∧ (∀ j, j < k → w.cell? ⟨g, o + (i * k + j), none⟩ = cs[j]?) ∧ DataW.trod enc P w base spare held fuel e cs = some y ∧ Light P e y.1
theorem elems_light (ht : P.underlying t = some (.slice e)) (hk : P.cellsOf e = k) (hk0 : 0 < k) {a : Option Addr} {n c : Nat} (h : DataW.trod enc P w base spare held fuel t [.slice a n c] = some x) (hL : Light P t x.1) :
    n ≤ c ∧ n * P.bytesOf e ≤ reachBytes ∧ ElemsL P enc w base spare held e k a n := by
  rcases DataW.trod_slice ht h with ⟨hcs, _⟩ | ⟨a', len, cap, elems, rest, m, _, hcs, hx, _, hlc, _, hlen, hel, _⟩
  · simp at hcs
    obtain ⟨rfl, rfl, rfl⟩ := hcs
    exact ⟨Nat.le_refl _, by simp, fun h => absurd h (by omega)⟩
  · simp at hcs
    obtain ⟨rfl, rfl, rfl⟩ := hcs
    have hw : ((elems.map (·.1)).length + (rest.map (·.1)).length) * P.bytesOf e ≤ reachBytes := hL _ (by rw [hx]; simp [DataW.weights, ht])
    have hwl : ∀ y ∈ elems, Light P e y.1 := fun y hy n hn => hL n (by
      rw [hx]
      simp only [DataW.weights, ht, List.mem_cons, List.mem_append]
      exact .inr (.inl (weightsAll_mem (List.mem_map_of_mem hy) n hn)))
    refine ⟨hlc, Nat.le_trans (Nat.mul_le_mul_right _ (by rw [List.length_map, hlen]; omega)) hw, fun hn => ?_⟩
    rw [hk] at hel
    have get : ∀ i, i < n → ∃ cs y, w.cells? base (a'.add (i * k)) k = some cs ∧ DataW.trod enc P w base spare held m e cs = some y ∧ Light P e y.1 := fun i hi => by
      have h1 := hel i hi
      rw [List.getElem?_eq_getElem (by omega)] at h1
      cases hcs : w.cells? base (a'.add (i * k)) k with
      | none => rw [hcs] at h1; cases h1
      | some cs => rw [hcs] at h1; exact ⟨cs, _, rfl, h1, hwl _ (List.getElem_mem _)⟩
    have hs : a'.spot = none ∧ a'.block < w.heap.size := by
      obtain ⟨cs, y, h1, _⟩ := get 0 hn
      obtain ⟨hl, hc⟩ := cells_at h1
      have h2 := hc 0 hk0
      have e0 : (a'.add (0 * k)).add 0 = a' := by
        unfold Addr.add
        cases a' with
        | mk b o s => cases s <;> simp
      rw [e0, List.getElem?_eq_getElem (by omega)] at h2
      exact ⟨spot_none h2, World.block_lt_of_cell? w _ h2⟩
    refine ⟨a'.block, a'.off, by cases a'; simp_all, hs.2, fun i hi => ?_⟩
    obtain ⟨cs, y, h1, h2, h3⟩ := get i hi
    obtain ⟨hl, hc⟩ := cells_at h1
    refine ⟨cs, y, m, hl, fun j hj => ?_, h2, h3⟩
    rw [← hc j hj, add_at _ hs.1, add_at _ rfl, Nat.add_assoc]
theorem light_field {fs : Array Field} {xs : List (DataW H × List MemPlace)} (ht : P.underlying t = some (.struct fs)) (hL : Light P t (.agg (xs.map (·.1)) : DataW H)) {i : Nat} {f : Field} {y : DataW H × List MemPlace} (hf : fs[i]? = some f) (hy : xs[i]? = some y) : Light P f.type y.1 := fun n hn => hL n (by
  simp only [DataW.weights, ht]
  exact DataW.weights_mem_each (j := i) (by simp [hf]) (by simp [hy]) n hn)
theorem light_len {A : Option Addr} {n c : Nat} (ht : P.underlying t = some (.slice e)) (hc : P.cellsOf e = 1) (hb : P.bytesOf e = 1) (h : DataW.trod enc P w base spare held fuel t [.slice A n c] = some x) (hL : Light P t x.1) : n ≤ 140737488351232 := by
  have := (elems_light ht hc (by omega) h hL).2.1
  rw [hb, Nat.mul_one] at this
  exact this
end
end Go.Proofs.Ytlfplikkifjnfaa
