/- An argument that is a list of byte slices: its elements. | TrailCut: the plain laws: a trail over a list cut in two; what a past holds behind so many frames. -/
import Derived.Test.YtopmdbmnlflpgaaDoorFacts
import Derived.Test.YtopmdbmnlflpgaaDoorLists
import Derived.Test.YtopmdbmnlflpgaaDoorOpen
import Derived.Test.YtopmdbmnlflpgaaDoorAw14
namespace Go.Proofs.YtopmdbmnlflpgaaDoor
section
open Go.ChangeShapes Go.WideShapes Go.ChangeAt Go.RowKit
def RdLs (w : World) (B : Nat) (A : Option Addr) (ls : List (List UInt8)) : Prop := 0 < ls.length → ∃ g o, A = some ⟨g, o, none⟩ ∧ g < B ∧ ∀ i, i < ls.length → ∃ Ai ci, w.cell? ⟨g, o + i, none⟩ = some (.slice Ai (nthL ls i).length ci) ∧ (nthL ls i).length ≤ ci ∧ Rd8 w B Ai (nthL ls i)
section
variable {H : Type} {enc : TypeId × Value → H} {w : World} {base : Nat} {spare : Nat → Bool} {held : Bool} {r : Reach} {b0 fuel : Nat} {v : Value} {d : DataW H} {ps : List MemPlace} {x : DataW H × List MemPlace}
set_option maxRecDepth 100000 in
theorem arg_lists (hval : Value.okWide Tryd.prog w r b0 42 v) (hd : DataW.Trod enc Tryd.prog w base spare held 42 v d ps) :
    ∃ A c ls, v = .slice A (List.length ls) c ∧ List.length ls ≤ c ∧ RdLs w w.heap.size A ls := by
  obtain ⟨a, n, c, rfl⟩ := okWide_slice Tryd.underlying42 hval
  obtain ⟨fuel, hf⟩ := hd
  obtain ⟨hnc, hel⟩ := elems_of (k := 1) Tryd.underlying42 (by kernel_rfl) (by omega) (by simpa [Value.cells] using hf)
  by_cases hn : 0 < n
  · obtain ⟨g, o, rfl, hg, hcs⟩ := hel hn
    have hex : ∀ i, ∃ u : List UInt8, i < n → ∃ Ai ci, w.cell? ⟨g, o + i, none⟩ = some (.slice Ai u.length ci) ∧ u.length ≤ ci ∧ Rd8 w w.heap.size Ai u := fun i => by
      by_cases hi : i < n
      · obtain ⟨cs, y, fu, hl, hc1, hy⟩ := hcs i hi
        obtain ⟨Ai, ni, ci, rfl⟩ := cellsOf_slice1 Tryd.underlying27 hy
        obtain ⟨l, rfl, hlc, hrd⟩ := trod_bytes Tryd.underlying27 Tryd.underlying5 (by kernel_rfl) hy
        exact ⟨l, fun _ => ⟨Ai, ci, by have := hc1 0 (by omega); simpa using this, hlc, hrd⟩⟩
      · exact ⟨[], fun h => absurd h hi⟩
    let f : Nat → List UInt8 := fun i => Classical.choose (hex i)
    refine ⟨_, c, (List.range n).map f, by simp, by simpa using hnc, fun _ => ⟨g, o, rfl, hg, fun i hi => ?_⟩⟩
    have hi' : i < n := by simpa using hi
    have e1 : nthL ((List.range n).map f) i = f i := by rw [nthL_def]; simp [List.getD, hi']
    rw [e1]
    exact Classical.choose_spec (hex i) hi'
  · obtain rfl : n = 0 := by omega
    exact ⟨a, c, [], rfl, by simp, fun h => by simp at h⟩
end
end
section
open Go.RowKit
def tsK (S : List UInt8) (ls : List (List UInt8)) (k : Nat) : List Tr := (List.range (k + 1)).map fun j => trK S 0 ls j
theorem tsK_zero (S : List UInt8) (ls : List (List UInt8)) : tsK S ls 0 = [(S, 0)] := rfl
theorem tsK_succ (S : List UInt8) (ls : List (List UInt8)) (k : Nat) : tsK S ls (k + 1) = tsK S ls k ++ [trK S 0 ls (k + 1)] := by rw [tsK, List.range_succ, List.map_append]; rfl
theorem tsK_len (S : List UInt8) (ls : List (List UInt8)) (k : Nat) : (tsK S ls k).length = k + 1 := by simp [tsK]
theorem tsK_nth (S : List UInt8) (ls : List (List UInt8)) (k j : Nat) (hj : j ≤ k) : nthT (tsK S ls k) j = trK S 0 ls j := by
  rw [nthT_def, tsK, List.getD_eq_getElem?_getD, List.getElem?_map, List.getElem?_range (by omega)]; rfl
theorem tsK_ok (S : List UInt8) (hS : S.length = 32) (ls : List (List UInt8)) (k : Nat) : OkT (tsK S ls k) := fun t ht => by
  rw [tsK, List.mem_map] at ht
  obtain ⟨j, _, rfl⟩ := ht
  exact trK_len S hS 0 ls j
theorem trK_num (h : List UInt8) (n : UInt32) (ls : List (List UInt8)) : ∀ k, (trK h n ls k).2 = n + UInt32.ofNat k
  | 0 => by simp [trK]
  | k + 1 => by
    rw [trK, trK_num h n ls k]
    apply UInt32.toNat_inj.1
    simp only [UInt32.toNat_add, UInt32.toNat_ofNat']
    have h1 : (1 : UInt32).toNat = 1 := rfl
    rw [h1]
    omega
theorem trK_num0 (h : List UInt8) (ls : List (List UInt8)) (k : Nat) : (trK h 0 ls k).2 = UInt32.ofNat k := by rw [trK_num]; simp
theorem num_inj {i j : Nat} (hi : i ≤ 100) (hj : j ≤ 100) (h : UInt32.ofNat i = UInt32.ofNat j) : i = j := by
  have := congrArg UInt32.toNat h
  rw [UInt32.toNat_ofNat', UInt32.toNat_ofNat'] at this
  omega
theorem trK_take (h : List UInt8) (n : UInt32) (ls : List (List UInt8)) (m : Nat) : ∀ k, k ≤ m → trK h n (ls.take m) k = trK h n ls k
  | 0, _ => rfl
  | k + 1, hk => by
    rw [trK, trK, trK_take h n ls m k (by omega)]
    have : nthL (ls.take m) k = nthL ls k := by
      rw [nthL_def, nthL_def, List.getD_eq_getElem?_getD, List.getD_eq_getElem?_getD, List.getElem?_take, if_pos (by omega)]
    rw [this]
theorem trK_drop (h : List UInt8) (n : UInt32) (ls : List (List UInt8)) (m : Nat) : ∀ k, trK (trK h n ls m).1 (trK h n ls m).2 (ls.drop m) k = trK h n ls (m + k)
  | 0 => rfl
  | k + 1 => by
    rw [trK, trK_drop h n ls m k, show m + (k + 1) = (m + k) + 1 by omega, trK]
    have : nthL (ls.drop m) k = nthL ls (m + k) := by
      rw [nthL_def, nthL_def, List.getD_eq_getElem?_getD, List.getD_eq_getElem?_getD, List.getElem?_drop]
    rw [this]
theorem BsLx.take {g : Nat} {w : World} {A : Option Addr} {n c : Nat} {ls : List (List UInt8)} (h : BsLx g w (.slice A n c) ls) (k : Nat) (hk : k ≤ n) : BsLx g w (.slice A k c) (ls.take k) := by
  obtain ⟨A', c', h1, h2, h3, h4⟩ := h
  injection h1 with e1 e2 e3
  subst e1; subst e2; subst e3
  have hl : (ls.take k).length = k := by simp; omega
  refine ⟨A, c, by rw [hl], by omega, by omega, fun h0 => ?_⟩
  rw [hl] at h0
  obtain ⟨b, o, rfl, hb, hr1, hr2⟩ := h4 (by omega)
  refine ⟨b, o, rfl, hb, hr1, fun i hi => ?_⟩
  rw [hl] at hi
  have : nthL (ls.take k) i = nthL ls i := by
    rw [nthL_def, nthL_def, List.getD_eq_getElem?_getD, List.getD_eq_getElem?_getD, List.getElem?_take, if_pos hi]
  rw [this]
  exact hr2 i (by omega)
theorem BsLx.drop {g : Nat} {w : World} {A : Option Addr} {n c : Nat} {ls : List (List UInt8)} (h : BsLx g w (.slice A n c) ls) (k : Nat) (hk : k ≤ n) : BsLx g w (.slice (subA A c k) (n - k) (c - k)) (ls.drop k) := by
  obtain ⟨A', c', h1, h2, h3, h4⟩ := h
  injection h1 with e1 e2 e3
  subst e1; subst e3
  rw [← e2] at h2 h3
  have hl : (ls.drop k).length = n - k := by rw [List.length_drop, ← e2]
  refine ⟨subA A c k, c - k, by rw [hl], by rw [hl]; exact Nat.sub_le_sub_right h2 k, by rw [hl]; exact Nat.le_trans (Nat.sub_le _ _) h3, fun h0 => ?_⟩
  rw [hl] at h0
  have hkn : k < n := Nat.lt_of_sub_pos h0
  obtain ⟨b, o, rfl, hb, hr1, hr2⟩ := h4 (by rw [← e2]; exact Nat.lt_of_le_of_lt (Nat.zero_le _) hkn)
  refine ⟨b, o + k, by rw [subA_def, if_neg (Nat.ne_of_gt (Nat.lt_of_lt_of_le hkn h2))]; simp [Addr.add], hb, hr1, fun i hi => ?_⟩
  rw [hl] at hi
  have : nthL (ls.drop k) i = nthL ls (k + i) := by
    rw [nthL_def, nthL_def, List.getD_eq_getElem?_getD, List.getD_eq_getElem?_getD, List.getElem?_drop]
  rw [this, show o + k + i = o + (k + i) from Nat.add_assoc _ _ _]
  exact hr2 (k + i) (by rw [← e2, Nat.add_comm]; exact Nat.add_lt_of_lt_sub hi)
theorem RdLs.bs {g : Nat} {w : World} {A : Option Addr} {c : Nat} {ls : List (List UInt8)} (h : RdLs w w.heap.size A ls) (hc : ls.length ≤ c) (hl : ls.length ≤ 1000) (hle : ∀ i, i < ls.length → (nthL ls i).length ≤ 1000) (hg : w.heap.size ≤ g) : BsLx g w (.slice A ls.length c) ls := by
  refine ⟨A, c, rfl, hc, by omega, fun h0 => ?_⟩
  obtain ⟨b, o, e, hb, hr⟩ := h h0
  refine ⟨b, o, e, by omega, hb, fun i hi => ?_⟩
  obtain ⟨Ai, ci, h1, h2, h3⟩ := hr i hi
  exact ⟨_, h1, Bs.of h2 (by have := hle i hi; omega) h3⟩
theorem find_at (S : List UInt8) (ls : List (List UInt8)) (len m : Nat) (hm : m ≤ len) (hl : len ≤ 10) {w w' : World} {e : Ending} (h : FindRes (tsK S ls len) (UInt32.ofNat m) w e w') : e = .returned (.tuple #[.agg (u8s (trK S 0 ls m).1), .int .i64 0]) ∧ Below w.heap.size w w' := by
  obtain ⟨hc, hb⟩ := h
  refine ⟨?_, hb⟩
  rcases hc with ⟨i, hi, he, hin, _⟩ | ⟨_, hall⟩
  · rw [tsK_len] at hi
    rw [tsK_nth S ls len i (by omega), trK_num0] at hin
    obtain rfl := num_inj (by omega) (by omega) hin
    rw [he, tsK_nth S ls len i (by omega)]
  · have := hall m (by rw [tsK_len]; omega)
    rw [tsK_nth S ls len m hm, trK_num0] at this
    exact absurd rfl this
end
end Go.Proofs.YtopmdbmnlflpgaaDoor
