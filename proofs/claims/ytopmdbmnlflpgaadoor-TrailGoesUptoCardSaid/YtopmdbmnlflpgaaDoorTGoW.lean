/- What an argument's parts weigh: the bound on a reading's bulk reaches each of them. | An argument that is a list of byte slices: its elements. | TrailCut: the plain laws: a trail over a list cut in two; what a past holds behind so many frames. | A trail, and a list of byte slices of moderate bulk, as arguments. | Layer 14: the document's trail: its parts. | Layer 14: the document's start and next. | Layer 14: the document's next. | TrailGoes: the walk of the statement's function, where what it reads is of moderate bulk. -/
import Derived.Test.YtopmdbmnlflpgaaDoorRows
import Derived.Test.YtopmdbmnlflpgaaDoorLists
import Derived.Test.YtopmdbmnlflpgaaDoorFacts
import Derived.Test.YtopmdbmnlflpgaaDoorOpen
import Derived.Test.YtopmdbmnlflpgaaDoorAw14
import Derived.Test.YtopmdbmnlflpgaaDoorArr
import Derived.Test.YtopmdbmnlflpgaaDoorPastW
import Derived.Test.YtopmdbmnlflpgaaDoorMacR
import Derived.Test.YtopmdbmnlflpgaaDoorLexS
namespace Go.Proofs.YtopmdbmnlflpgaaDoor
section
open Go.ChangeShapes Go.WideShapes Go.ChangeAt Go.RowKit
section
variable {P : Program} {H : Type} {enc : TypeId × Value → H} {w : World} {base : Nat} {spare : Nat → Bool} {held : Bool} {fuel : Nat} {t e : TypeId} {x : DataW H × List MemPlace} {k : Nat} {B : Nat}
theorem bulk_mem : ∀ {ds : List (DataW H)} {d : DataW H}, d ∈ ds → Rows.uptoBulk d ≤ Rows.uptoBulkAll ds
  | a :: ds, d, hd => by
    simp only [Rows.uptoBulkAll]
    rcases List.mem_cons.1 hd with rfl | hd
    · omega
    · have := bulk_mem hd; omega
theorem bulk_one (d : DataW H) : 1 ≤ Rows.uptoBulk d := by
  cases d with
  | lit l => cases l <;> simp [Rows.uptoBulk]
  | nil => simp [Rows.uptoBulk]
  | ptr d => simp [Rows.uptoBulk]
  | slice elems spare => simp [Rows.uptoBulk]
  | agg parts => simp [Rows.uptoBulk]
  | iface t d => simp [Rows.uptoBulk]
  | map entries => simp [Rows.uptoBulk]
  | held h => simp [Rows.uptoBulk]
theorem bulk_len (l : List (DataW H)) : l.length ≤ Rows.uptoBulkAll l := by
  induction l with
  | nil => simp [Rows.uptoBulkAll]
  | cons x r ih => have := bulk_one x; simp only [Rows.uptoBulkAll, List.length_cons]; omega
theorem bulk_small {ds : List (DataW H)} (h : Rows.uptoSmall H ds = true) : Rows.uptoBulkAll ds ≤ 1048576 := by simpa [Rows.uptoSmall] using h
theorem bulk_slice (ht : P.underlying t = some (.slice e)) {a : Option Addr} {n c : Nat} (h : DataW.trod enc P w base spare held fuel t [.slice a n c] = some x) (hB : Rows.uptoBulk x.1 ≤ B) : n ≤ B := by
  rcases DataW.trod_slice ht h with ⟨hcs, _⟩ | ⟨a', len, cap, elems, rest, m, _, hcs, hx, _, _, _, hlen, _⟩
  · simp at hcs
    obtain ⟨rfl, rfl, rfl⟩ := hcs
    omega
  · simp at hcs
    obtain ⟨rfl, rfl, rfl⟩ := hcs
    have h1 : Rows.uptoBulk x.1 = Rows.uptoBulkAll (elems.map (·.1)) + Rows.uptoBulkAll (rest.map (·.1)) + 1 := by rw [hx]; simp only [Rows.uptoBulk]
    have h2 := bulk_len (elems.map (·.1))
    rw [List.length_map, hlen] at h2
    omega
def ElemsU (P : Program) {H : Type} (enc : TypeId × Value → H) (w : World) (base : Nat) (spare : Nat → Bool) (held : Bool) (e : TypeId) (k : Nat) (A : Option Addr) (n B : Nat) : Prop :=
  0 < n → ∃ g o, A = some ⟨g, o, none⟩ ∧ g < w.heap.size ∧ ∀ i, i < n → ∃ cs y fuel, cs.length = k ∧ (∀ j, j < k → w.cell? ⟨g, o + (i * k + j), none⟩ = cs[j]?) ∧ DataW.trod enc P w base spare held fuel e cs = some y ∧ Rows.uptoBulk y.1 ≤ B
theorem elems_bulk (ht : P.underlying t = some (.slice e)) (hk : P.cellsOf e = k) (hk0 : 0 < k) {a : Option Addr} {n c : Nat} (h : DataW.trod enc P w base spare held fuel t [.slice a n c] = some x) (hB : Rows.uptoBulk x.1 ≤ B) :
    n ≤ c ∧ ElemsU P enc w base spare held e k a n B := by
  rcases DataW.trod_slice ht h with ⟨hcs, _⟩ | ⟨a', len, cap, elems, rest, m, _, hcs, hx, _, hlc, _, hlen, hel, _⟩
  · simp at hcs
    obtain ⟨rfl, rfl, rfl⟩ := hcs
    exact ⟨Nat.le_refl _, fun h => absurd h (by omega)⟩
  · simp at hcs
    obtain ⟨rfl, rfl, rfl⟩ := hcs
    have h1 : Rows.uptoBulk x.1 = Rows.uptoBulkAll (elems.map (·.1)) + Rows.uptoBulkAll (rest.map (·.1)) + 1 := by rw [hx]; simp only [Rows.uptoBulk]
    have hwl : ∀ y ∈ elems, Rows.uptoBulk y.1 ≤ B := fun y hy => by
      have := bulk_mem (List.mem_map_of_mem (f := (·.1)) hy)
      omega
    refine ⟨hlc, fun hn => ?_⟩
    rw [hk] at hel
    have get : ∀ i, i < n → ∃ cs y, w.cells? base (a'.add (i * k)) k = some cs ∧ DataW.trod enc P w base spare held m e cs = some y ∧ Rows.uptoBulk y.1 ≤ B := fun i hi => by
      have h1 := hel i hi
      rw [List.getElem?_eq_getElem (by omega)] at h1
      cases hcs : w.cells? base (a'.add (i * k)) k with
      | none => rw [hcs] at h1; cases h1
      | some cs => rw [hcs] at h1; exact ⟨cs, _, rfl, h1, hwl _ (List.getElem_mem _)⟩
    have hs : a'.spot = none ∧ a'.block < w.heap.size := by
      obtain ⟨cs, y, h1, _⟩ := get 0 hn
      obtain ⟨hl, hc⟩ := cells_at h1
      have h2 := hc 0 hk0
      have e0 : (a'.add (0 * k)).add 0 = a' := by
        unfold Addr.add
        cases a' with
        | mk b o s => cases s <;> simp
      rw [e0, List.getElem?_eq_getElem (by omega)] at h2
      exact ⟨spot_none h2, World.block_lt_of_cell? w _ h2⟩
    refine ⟨a'.block, a'.off, by cases a'; simp_all, hs.2, fun i hi => ?_⟩
    obtain ⟨cs, y, h1, h2, h3⟩ := get i hi
    obtain ⟨hl, hc⟩ := cells_at h1
    refine ⟨cs, y, m, hl, fun j hj => ?_, h2, h3⟩
    rw [← hc j hj, add_at _ hs.1, add_at _ rfl, Nat.add_assoc]
end
end
section
section
open Go.ChangeShapes Go.WideShapes Go.ChangeAt Go.RowKit
def RdLs (w : World) (B : Nat) (A : Option Addr) (ls : List (List UInt8)) : Prop := 0 < ls.length → ∃ g o, A = some ⟨g, o, none⟩ ∧ g < B ∧ ∀ i, i < ls.length → ∃ Ai ci, w.cell? ⟨g, o + i, none⟩ = some (.slice Ai (nthL ls i).length ci) ∧ (nthL ls i).length ≤ ci ∧ Rd8 w B Ai (nthL ls i)
section
variable {H : Type} {enc : TypeId × Value → H} {w : World} {base : Nat} {spare : Nat → Bool} {held : Bool} {r : Reach} {b0 fuel : Nat} {v : Value} {d : DataW H} {ps : List MemPlace} {x : DataW H × List MemPlace}
set_option maxRecDepth 100000 in
theorem arg_lists (hval : Value.okWide Tryd.prog w r b0 42 v) (hd : DataW.Trod enc Tryd.prog w base spare held 42 v d ps) :
    ∃ A c ls, v = .slice A (List.length ls) c ∧ List.length ls ≤ c ∧ RdLs w w.heap.size A ls := by
  obtain ⟨a, n, c, rfl⟩ := okWide_slice Tryd.underlying42 hval
  obtain ⟨fuel, hf⟩ := hd
  obtain ⟨hnc, hel⟩ := elems_of (k := 1) Tryd.underlying42 (by kernel_rfl) (by omega) (by simpa [Value.cells] using hf)
  by_cases hn : 0 < n
  · obtain ⟨g, o, rfl, hg, hcs⟩ := hel hn
    have hex : ∀ i, ∃ u : List UInt8, i < n → ∃ Ai ci, w.cell? ⟨g, o + i, none⟩ = some (.slice Ai u.length ci) ∧ u.length ≤ ci ∧ Rd8 w w.heap.size Ai u := fun i => by
      by_cases hi : i < n
      · obtain ⟨cs, y, fu, hl, hc1, hy⟩ := hcs i hi
        obtain ⟨Ai, ni, ci, rfl⟩ := cellsOf_slice1 Tryd.underlying27 hy
        obtain ⟨l, rfl, hlc, hrd⟩ := trod_bytes Tryd.underlying27 Tryd.underlying5 (by kernel_rfl) hy
        exact ⟨l, fun _ => ⟨Ai, ci, by have := hc1 0 (by omega); simpa using this, hlc, hrd⟩⟩
      · exact ⟨[], fun h => absurd h hi⟩
    let f : Nat → List UInt8 := fun i => Classical.choose (hex i)
    refine ⟨_, c, (List.range n).map f, by simp, by simpa using hnc, fun _ => ⟨g, o, rfl, hg, fun i hi => ?_⟩⟩
    have hi' : i < n := by simpa using hi
    have e1 : nthL ((List.range n).map f) i = f i := by rw [nthL_def]; simp [List.getD, hi']
    rw [e1]
    exact Classical.choose_spec (hex i) hi'
  · obtain rfl : n = 0 := by omega
    exact ⟨a, c, [], rfl, by simp, fun h => by simp at h⟩
end
end
section
open Go.RowKit
def tsK (S : List UInt8) (ls : List (List UInt8)) (k : Nat) : List Tr := (List.range (k + 1)).map fun j => trK S 0 ls j
theorem tsK_zero (S : List UInt8) (ls : List (List UInt8)) : tsK S ls 0 = [(S, 0)] := rfl
theorem tsK_succ (S : List UInt8) (ls : List (List UInt8)) (k : Nat) : tsK S ls (k + 1) = tsK S ls k ++ [trK S 0 ls (k + 1)] := by rw [tsK, List.range_succ, List.map_append]; rfl
theorem tsK_len (S : List UInt8) (ls : List (List UInt8)) (k : Nat) : (tsK S ls k).length = k + 1 := by simp [tsK]
theorem tsK_nth (S : List UInt8) (ls : List (List UInt8)) (k j : Nat) (hj : j ≤ k) : nthT (tsK S ls k) j = trK S 0 ls j := by
  rw [nthT_def, tsK, List.getD_eq_getElem?_getD, List.getElem?_map, List.getElem?_range (by omega)]; rfl
theorem tsK_ok (S : List UInt8) (hS : S.length = 32) (ls : List (List UInt8)) (k : Nat) : OkT (tsK S ls k) := fun t ht => by
  rw [tsK, List.mem_map] at ht
  obtain ⟨j, _, rfl⟩ := ht
  exact trK_len S hS 0 ls j
theorem trK_num (h : List UInt8) (n : UInt32) (ls : List (List UInt8)) : ∀ k, (trK h n ls k).2 = n + UInt32.ofNat k
  | 0 => by simp [trK]
  | k + 1 => by
    rw [trK, trK_num h n ls k]
    apply UInt32.toNat_inj.1
    simp only [UInt32.toNat_add, UInt32.toNat_ofNat']
    have h1 : (1 : UInt32).toNat = 1 := rfl
    rw [h1]
    omega
theorem trK_num0 (h : List UInt8) (ls : List (List UInt8)) (k : Nat) : (trK h 0 ls k).2 = UInt32.ofNat k := by rw [trK_num]; simp
theorem num_inj {i j : Nat} (hi : i ≤ 100) (hj : j ≤ 100) (h : UInt32.ofNat i = UInt32.ofNat j) : i = j := by
  have := congrArg UInt32.toNat h
  rw [UInt32.toNat_ofNat', UInt32.toNat_ofNat'] at this
  omega
theorem trK_take (h : List UInt8) (n : UInt32) (ls : List (List UInt8)) (m : Nat) : ∀ k, k ≤ m → trK h n (ls.take m) k = trK h n ls k
  | 0, _ => rfl
  | k + 1, hk => by
    rw [trK, trK, trK_take h n ls m k (by omega)]
    have : nthL (ls.take m) k = nthL ls k := by
      rw [nthL_def, nthL_def, List.getD_eq_getElem?_getD, List.getD_eq_getElem?_getD, List.getElem?_take, if_pos (by omega)]
    rw [this]
theorem trK_drop (h : List UInt8) (n : UInt32) (ls : List (List UInt8)) (m : Nat) : ∀ k, trK (trK h n ls m).1 (trK h n ls m).2 (ls.drop m) k = trK h n ls (m + k)
  | 0 => rfl
  | k + 1 => by
    rw [trK, trK_drop h n ls m k, show m + (k + 1) = (m + k) + 1 by omega, trK]
    have : nthL (ls.drop m) k = nthL ls (m + k) := by
      rw [nthL_def, nthL_def, List.getD_eq_getElem?_getD, List.getD_eq_getElem?_getD, List.getElem?_drop]
    rw [this]
theorem BsLx.take {g : Nat} {w : World} {A : Option Addr} {n c : Nat} {ls : List (List UInt8)} (h : BsLx g w (.slice A n c) ls) (k : Nat) (hk : k ≤ n) : BsLx g w (.slice A k c) (ls.take k) := by
  obtain ⟨A', c', h1, h2, h3, h4⟩ := h
  injection h1 with e1 e2 e3
  subst e1; subst e2; subst e3
  have hl : (ls.take k).length = k := by simp; omega
  refine ⟨A, c, by rw [hl], by omega, by omega, fun h0 => ?_⟩
  rw [hl] at h0
  obtain ⟨b, o, rfl, hb, hr1, hr2⟩ := h4 (by omega)
  refine ⟨b, o, rfl, hb, hr1, fun i hi => ?_⟩
  rw [hl] at hi
  have : nthL (ls.take k) i = nthL ls i := by
    rw [nthL_def, nthL_def, List.getD_eq_getElem?_getD, List.getD_eq_getElem?_getD, List.getElem?_take, if_pos hi]
  rw [this]
  exact hr2 i (by omega)
theorem BsLx.drop {g : Nat} {w : World} {A : Option Addr} {n c : Nat} {ls : List (List UInt8)} (h : BsLx g w (.slice A n c) ls) (k : Nat) (hk : k ≤ n) : BsLx g w (.slice (subA A c k) (n - k) (c - k)) (ls.drop k) := by
  obtain ⟨A', c', h1, h2, h3, h4⟩ := h
  injection h1 with e1 e2 e3
  subst e1; subst e3
  rw [← e2] at h2 h3
  have hl : (ls.drop k).length = n - k := by rw [List.length_drop, ← e2]
  refine ⟨subA A c k, c - k, by rw [hl], by rw [hl]; exact Nat.sub_le_sub_right h2 k, by rw [hl]; exact Nat.le_trans (Nat.sub_le _ _) h3, fun h0 => ?_⟩
  rw [hl] at h0
  have hkn : k < n := Nat.lt_of_sub_pos h0
  obtain ⟨b, o, rfl, hb, hr1, hr2⟩ := h4 (by rw [← e2]; exact Nat.lt_of_le_of_lt (Nat.zero_le _) hkn)
  refine ⟨b, o + k, by rw [subA_def, if_neg (Nat.ne_of_gt (Nat.lt_of_lt_of_le hkn h2))]; simp [Addr.add], hb, hr1, fun i hi => ?_⟩
  rw [hl] at hi
  have : nthL (ls.drop k) i = nthL ls (k + i) := by
    rw [nthL_def, nthL_def, List.getD_eq_getElem?_getD, List.getD_eq_getElem?_getD, List.getElem?_drop]
  rw [this, show o + k + i = o + (k + i) from Nat.add_assoc _ _ _]
  exact hr2 (k + i) (by rw [← e2, Nat.add_comm]; exact Nat.add_lt_of_lt_sub hi)
theorem RdLs.bs {g : Nat} {w : World} {A : Option Addr} {c : Nat} {ls : List (List UInt8)} (h : RdLs w w.heap.size A ls) (hc : ls.length ≤ c) (hl : ls.length ≤ 1000) (hle : ∀ i, i < ls.length → (nthL ls i).length ≤ 1000) (hg : w.heap.size ≤ g) : BsLx g w (.slice A ls.length c) ls := by
  refine ⟨A, c, rfl, hc, by omega, fun h0 => ?_⟩
  obtain ⟨b, o, e, hb, hr⟩ := h h0
  refine ⟨b, o, e, by omega, hb, fun i hi => ?_⟩
  obtain ⟨Ai, ci, h1, h2, h3⟩ := hr i hi
  exact ⟨_, h1, Bs.of h2 (by have := hle i hi; omega) h3⟩
theorem find_at (S : List UInt8) (ls : List (List UInt8)) (len m : Nat) (hm : m ≤ len) (hl : len ≤ 10) {w w' : World} {e : Ending} (h : FindRes (tsK S ls len) (UInt32.ofNat m) w e w') : e = .returned (.tuple #[.agg (u8s (trK S 0 ls m).1), .int .i64 0]) ∧ Below w.heap.size w w' := by
  obtain ⟨hc, hb⟩ := h
  refine ⟨?_, hb⟩
  rcases hc with ⟨i, hi, he, hin, _⟩ | ⟨_, hall⟩
  · rw [tsK_len] at hi
    rw [tsK_nth S ls len i (by omega), trK_num0] at hin
    obtain rfl := num_inj (by omega) (by omega) hin
    rw [he, tsK_nth S ls len i (by omega)]
  · have := hall m (by rw [tsK_len]; omega)
    rw [tsK_nth S ls len m hm, trK_num0] at this
    exact absurd rfl this
end
end
section
open Go.ChangeShapes Go.WideShapes Go.ChangeAt Go.RowKit
section
variable {P : Program} {H : Type} {enc : TypeId × Value → H} {w : World} {base : Nat} {spare : Nat → Bool} {held : Bool} {fuel : Nat} {t e : TypeId} {x : DataW H × List MemPlace} {n : Nat}
theorem trod_arr8u {cs : List Value} (ht : P.underlying t = some (.array n e)) (he : P.underlying e = some (.int .u8)) (hc : P.cellsOf e = 1) (h : DataW.trod enc P w base spare held fuel t cs = some x) (hl : cs.length = n) : ∃ l : List UInt8, cs = u8v l ∧ l.length = n := by
  obtain ⟨xs, m, rfl, hx, hlen, hn, hel⟩ := DataW.trod_array ht h
  have hz : ∀ i, i < n → ∃ u : UInt8, cs[i]? = some (.int .u8 (n8 u)) := by
    intro i hi
    have h1 := hel i hi
    rw [hc, Nat.mul_one, List.getElem?_eq_getElem (by omega)] at h1
    obtain ⟨z, e1, e2, e3⟩ := DataW.trod_int he h1
    obtain ⟨u, rfl⟩ := wf8 e3
    refine ⟨u, ?_⟩
    have h3 := congrArg (fun l => l[0]?) e1
    simp at h3
    simpa using h3
  have hex : ∀ i, ∃ u : UInt8, i < n → cs[i]? = some (.int .u8 (n8 u)) := fun i => by
    by_cases hi : i < n
    · obtain ⟨u, hu⟩ := hz i hi; exact ⟨u, fun _ => hu⟩
    · exact ⟨0, fun h => absurd h hi⟩
  let f : Nat → UInt8 := fun i => Classical.choose (hex i)
  refine ⟨(List.range n).map f, ?_, by simp⟩
  apply List.ext_getElem?
  intro i
  by_cases hi : i < n
  · rw [Classical.choose_spec (hex i) hi, u8v_get _ i (by simpa using hi), at8_map _ _ _ hi]
  · rw [List.getElem?_eq_none (by omega), List.getElem?_eq_none (by rw [u8v_length]; simp; omega)]
theorem pair2_of {α : Type} {l : List α} (h : l.length = 2) : ∃ a b, l = [a, b] := by
  match l, h with
  | [a, b], _ => exact ⟨a, b, rfl⟩
end
section
variable {H : Type} {enc : TypeId × Value → H} {w : World} {base : Nat} {spare : Nat → Bool} {held : Bool} {r : Reach} {b0 fuel : Nat} {v : Value} {d : DataW H} {ps : List MemPlace} {x : DataW H × List MemPlace} {B : Nat}
set_option maxRecDepth 100000 in
theorem arg_trail (hval : Value.okWide Tryd.prog w r b0 64 v) (hd : DataW.Trod enc Tryd.prog w base spare held 64 v d ps) :
    ∃ h n, v = .agg (trC h n) ∧ h.length = 32 := by
  obtain ⟨cs, rfl, hcs⟩ := okWide_struct Tryd.underlying64 hval
  have c0 : Tryd.prog.cellsOf 64 = 33 := by kernel_rfl
  rw [c0] at hcs
  obtain ⟨fuel, hf⟩ := hd
  simp only [Value.cells] at hf
  obtain ⟨xs, n, _, _, _, hlen, hq⟩ := DataW.trod_struct Tryd.underlying64 hf
  have c2 : Tryd.prog.cellsOf 22 = 1 := by kernel_rfl
  have c3 : Tryd.prog.cellsOf 33 = 32 := by kernel_rfl
  have x2 : xs.length = 2 := hlen
  obtain ⟨y0, y1, rfl⟩ := pair2_of x2
  have f0 := hq 0 _ rfl
  have f1 := hq 1 _ rfl
  change DataW.trod enc Tryd.prog w base spare held n 33 ((cs.toList.drop 0).take (Tryd.prog.cellsOf 33)) = some y0 at f0
  change DataW.trod enc Tryd.prog w base spare held n 22 ((cs.toList.drop 32).take (Tryd.prog.cellsOf 22)) = some y1 at f1
  rw [c3] at f0
  rw [c2] at f1
  obtain ⟨z1, h1, _, w1⟩ := DataW.trod_int Tryd.underlying22 f1
  obtain ⟨n1, rfl⟩ := wf32 w1
  obtain ⟨l, hl2, hln⟩ := trod_arr8u Tryd.underlying33 Tryd.underlying5 (by kernel_rfl) f0 (by simp [hcs])
  refine ⟨l, n1, ?_, hln⟩
  have e : cs.toList = (cs.toList.drop 0).take 32 ++ (cs.toList.drop 32).take 1 := by
    have e2 : (cs.toList.drop 32).take 1 = cs.toList.drop 32 := List.take_of_length_le (by simp [hcs])
    rw [e2, List.drop_zero, List.take_append_drop]
  rw [trC_def, trL, ← hl2, ← h1, ← e]
set_option maxRecDepth 100000 in
theorem arg_bytesU (hval : Value.okWide Tryd.prog w r b0 27 v) (hd : DataW.Trod enc Tryd.prog w base spare held 27 v d ps) :
    ∃ A c l, v = .slice A (List.length l) c ∧ List.length l ≤ c ∧ Rd8 w w.heap.size A l :=
  arg_bytes Tryd.underlying27 Tryd.underlying5 (by kernel_rfl) hval hd
theorem bytes_bulk {A : Option Addr} {n c : Nat} (hd : DataW.Trod enc Tryd.prog w base spare held 27 (.slice A n c) d ps) (hB : Rows.uptoBulk d ≤ B) : n ≤ B := by
  obtain ⟨fuel, hf⟩ := hd
  exact bulk_slice (x := (d, ps)) Tryd.underlying27 (by simpa [Value.cells] using hf) hB
set_option maxRecDepth 100000 in
theorem arg_listsU (hval : Value.okWide Tryd.prog w r b0 42 v) (hd : DataW.Trod enc Tryd.prog w base spare held 42 v d ps) (hB : Rows.uptoBulk d ≤ B) :
    ∃ A c ls, v = .slice A (List.length ls) c ∧ List.length ls ≤ c ∧ RdLs w w.heap.size A ls ∧ ∀ i, i < List.length ls → (nthL ls i).length ≤ B := by
  obtain ⟨a, n, c, rfl⟩ := okWide_slice Tryd.underlying42 hval
  obtain ⟨fuel, hf⟩ := hd
  obtain ⟨hnc, hel⟩ := elems_bulk (x := (d, ps)) (k := 1) Tryd.underlying42 (by kernel_rfl) (by omega) (by simpa [Value.cells] using hf) hB
  by_cases hn : 0 < n
  · obtain ⟨g, o, rfl, hg, hcs⟩ := hel hn
    have hex : ∀ i, ∃ u : List UInt8, i < n → (∃ Ai ci, w.cell? ⟨g, o + i, none⟩ = some (.slice Ai u.length ci) ∧ u.length ≤ ci ∧ Rd8 w w.heap.size Ai u) ∧ u.length ≤ B := fun i => by
      by_cases hi : i < n
      · obtain ⟨cs, y, fu, hl, hc1, hy, hyB⟩ := hcs i hi
        obtain ⟨Ai, ni, ci, rfl⟩ := cellsOf_slice1 Tryd.underlying27 hy
        have hb := bulk_slice Tryd.underlying27 hy hyB
        obtain ⟨l, rfl, hlc, hrd⟩ := trod_bytes Tryd.underlying27 Tryd.underlying5 (by kernel_rfl) hy
        exact ⟨l, fun _ => ⟨⟨Ai, ci, by have := hc1 0 (by omega); simpa using this, hlc, hrd⟩, hb⟩⟩
      · exact ⟨[], fun h => absurd h hi⟩
    let f : Nat → List UInt8 := fun i => Classical.choose (hex i)
    have e1 : ∀ i, i < n → nthL ((List.range n).map f) i = f i := fun i hi' => by rw [nthL_def]; simp [List.getD, hi']
    refine ⟨_, c, (List.range n).map f, by simp, by simpa using hnc, fun _ => ⟨g, o, rfl, hg, fun i hi => ?_⟩, fun i hi => ?_⟩
    · have hi' : i < n := by simpa using hi
      rw [e1 i hi']
      exact (Classical.choose_spec (hex i) hi').1
    · have hi' : i < n := by simpa using hi
      rw [e1 i hi']
      exact (Classical.choose_spec (hex i) hi').2
  · obtain rfl : n = 0 := by omega
    exact ⟨a, c, [], rfl, by simp, fun h => by simp at h, fun i hi => by simp at hi⟩
end
end
section
open Go.RowKit
theorem rtrBuilt (parts : List (Nat × Value)) : Tryd.prog.built 66 parts = Instr.fill (#[(0, 32), (32, 1)][·]?) (u8v (zeros 32) ++ [Value.int .u32 0]).toArray parts := by
  rw [u8v_def, zeros_def]
  kernel_rfl
theorem rtrBuild (key : List UInt8) (hkey : key.length = 32) (w : World) : (buildK 66 #[(0, .agg (u8s key))]).run Tryd.prog w = .ok (.value (.agg (trC key 0))) w := run_buildK (by rw [rtrBuilt]; exact fillTr key hkey) w
theorem rtrBuild2 (key : List UInt8) (hkey : key.length = 32) (n : UInt32) (w : World) : (buildK 66 #[(0, .agg (u8s key)), (1, .int .u32 (n32 n))]).run Tryd.prog w = .ok (.value (.agg (trC key n))) w := run_buildK (by rw [rtrBuilt]; exact fillTr2 key hkey n) w
theorem xrtrBuild (ev : Operand → Value) (d : Option Tmp) (ps : Array (Nat × Operand)) (ty : TypeId) (p : String) (af : Array Edge) (g : Option (Nat × Bool)) :
    execOp ev ⟨d, .build 66 ps, ty, p, af, g⟩ = buildK 66 (ps.map fun x => (x.1, ev x.2)) := exec_buildK ev d _ ps ty p af g
theorem xrtrLoad (ev : Operand → Value) (d : Option Tmp) (x : Operand) (ty : TypeId) (p : String) (af : Array Edge) (g : Option (Nat × Bool)) :
    execOp ev ⟨d, .load 66 x, ty, p, af, g⟩ = loadAgg 66 (ev x) := exec_loadAgg ev d _ x ty p af g
theorem xrtrStore (ev : Operand → Value) (d : Option Tmp) (x y : Operand) (ty : TypeId) (p : String) (af : Array Edge) (g : Option (Nat × Bool)) :
    execOp ev ⟨d, .store 66 x y, ty, p, af, g⟩ = storeAgg 66 (ev x) (ev y) := exec_storeAgg ev d _ x y ty p af g
theorem rtrStore (w : World) (g : Nat) (cs : Array Value) (hr : (rowOf w g).size = 33) (hc : cs.size = 33) (h1 : cs.all (·.oneCell') = true) :
    (storeAgg 66 (.pointer (some ⟨g, 0, none⟩)) (.agg cs)).run Tryd.prog w = .ok .skip (w.setRow g cs) :=
  run_storeAgg 33 66 (by omega) (by kernel_rfl) w g cs hr hc h1
theorem rtrload {w : World} {g : Nat} {h : List UInt8} {n : UInt32} (hr : RowIs w g (trC h n)) (hh : h.length = 32) : (loadAgg 66 (.pointer (some ⟨g, 0, none⟩))).run Tryd.prog w = .ok (.value (.agg (trC h n))) w := by
  have := run_loadAgg (P := Tryd.prog) 33 66 (by omega) (by kernel_rfl) (by kernel_rfl) w g (by rw [hr.has, trC_size h hh])
  rw [hr.has] at this; exact this
attribute [go_sem ↓] xrtrBuild xrtrLoad xrtrStore
attribute [go_sem] trZ rtrStore trC_size trC_one rtrBuild rtrBuild2
theorem lit5 : (#[.int .u8 115, .int .u8 116, .int .u8 97, .int .u8 114, .int .u8 116] : Array Value) = u8s [115, 116, 97, 114, 116] := by rw [u8s_def]; simp only [n8_def]; rfl
theorem lit4 : (#[.int .u8 110, .int .u8 101, .int .u8 120, .int .u8 116] : Array Value) = u8s [110, 101, 120, 116] := by rw [u8s_def]; simp only [n8_def]; rfl
end
section
open Go.RowKit
def LTr (r : Nat) (N : Int) (h : List UInt8) (n : UInt32) (w : World) (e : Ending) (w' : World) : Prop := e = .returned (.agg (trC h n)) ∧ LogB w' r N ∧ Upd r w w'
set_option maxRecDepth 100000 in
set_option maxHeartbeats 3200000 in
theorem refstart_any (r : Nat) (N : Int) (vo vt : Value) (one two : List UInt8) (w : World) (hm : LogB w r N) (ho : Bs w vo one) (ht : Bs w vt two) (h1 : one.length ≤ 2000000) (h2 : two.length ≤ 2000000) (hN : N ≤ 900000) :
    Calls Tryd.prog 43 #[.pointer (some ⟨r, 0, none⟩), vo, vt] w (LTr r (N + 1) (startB one two) 0 w) := by
  obtain ⟨D, hD⟩ : ∃ D, D = startB one two := ⟨_, rfl⟩
  have hDl : D.length = 32 := by rw [hD, startB_length]
  obtain ⟨H, hH⟩ : ∃ H, H = (lowB (UInt64.ofNat one.length) 8).reverse := ⟨_, rfl⟩
  have hHl : H.length = 8 := by rw [hH, List.length_reverse, lowB_length]
  obtain ⟨P0, hP0⟩ : ∃ P, P = ([115, 116, 97, 114, 116] : List UInt8) := ⟨_, rfl⟩
  have hP0l : P0.length = 5 := by rw [hP0]; rfl
  obtain ⟨P1, hP1⟩ : ∃ P, P = P0 ++ H := ⟨_, rfl⟩
  have hP1l : P1.length = 13 := by rw [hP1, List.length_append, hP0l, hHl]
  obtain ⟨P2, hP2⟩ : ∃ P, P = P1 ++ one := ⟨_, rfl⟩
  obtain ⟨P3, hP3⟩ : ∃ P, P = P2 ++ two := ⟨_, rfl⟩
  have hDe : shaB P3 = D := by rw [hD, startB_def, hP3, hP2, hP1, hP0, hH]
  obtain ⟨n1, hn1⟩ : ∃ n, n = one.length := ⟨_, rfl⟩
  obtain ⟨n2, hn2⟩ : ∃ n, n = two.length := ⟨_, rfl⟩
  have hP2l : P2.length = n1 + 13 := by rw [hP2, List.length_append, hP1l, ← hn1, Nat.add_comm]
  have hP3l : P3.length = n1 + n2 + 13 := by rw [hP3, List.length_append, hP2l, ← hn2]; omega
  rw [← hn1] at h1 hH
  rw [← hn2] at h2
  rw [← hD]
  have E1 := Lib.hid hP1.symm; have E2 := Lib.hid hP2.symm; have E3 := Lib.hid hP3.symm
  have L1 := Lib.hid hP1l; have L2 := Lib.hid hP2l; have L3 := Lib.hid hP3l
  have DE := Lib.hid hDe
  have hh := fun w => refHigh_bs (UInt64.ofNat n1) 8 (by omega) 8 rfl w
  rw [show n64 (UInt64.ofNat n1) = (n1 : Int) by rw [n64_def, UInt64.toNat_ofNat']; omega, ← hH] at hh
  have HH := Lib.hid hh
  have Z0 : u8s P0 = #[.int .u8 115, .int .u8 116, .int .u8 97, .int .u8 114, .int .u8 116] := by rw [hP0, lit5]
  have HZ0 := Lib.hid Z0
  obtain ⟨A1, c1, rfl, -, -, -⟩ := id ho
  obtain ⟨A2, c2, rfl, -, -, -⟩ := id ht
  have NN := Lib.hid hn1; have NM := Lib.hid hn2
  rw [← hn1, ← hn2] at *
  clear hD hH hP0 hP1 hP2 hP3 hDe hn1 hn2 hP1l hP2l hP3l hh Z0
  have hrl := hm.lt
  have hB : Below w.heap.size w ((w.alloc (.cells (trC (zeros 32) 0) 66)).alloc (.cells #[.int .u8 115, .int .u8 116, .int .u8 97, .int .u8 114, .int .u8 116] 5)) := (by repeat (first | with_reducible exact Below.refl _ _ | with_reducible assumption | refine Below.drew ?_ | refine below_drewN ?_ | refine Below.alloc ?_ (by first | omega | (simp; done) | (simp; omega)) _ | refine below_setRow ?_ (by omega) _ | refine Below.setCell ?_ (by first | omega | (simp; done) | (simp; omega)) _))
  have R6 : RowIs ((w.alloc (.cells (trC (zeros 32) 0) 66)).alloc (.cells #[.int .u8 115, .int .u8 116, .int .u8 97, .int .u8 114, .int .u8 116] 5)) w.heap.size (trC (zeros 32) 0) := (RowIs.new _ _ _).alloc _
  have own0 : Own8 5 ((w.alloc (.cells (trC (zeros 32) 0) 66)).alloc (.cells #[.int .u8 115, .int .u8 116, .int .u8 97, .int .u8 114, .int .u8 116] 5)) (w.heap.size + 1) (.slice (some ⟨w.heap.size + 1, 0, none⟩) 5 5) P0 := by
    have := Own8.new 5 (w.alloc (.cells (trC (zeros 32) 0) 66)) (w.heap.size + 1) P0 (by simp) (by rw [hP0l]; simp [maxLen])
    rw [hP0l, HZ0.out] at this
    simpa using this
  clear hP0l
  go_enter Tryd.func43, Tryd.ntmps43
  go_wp2_with fail
  refine (HH.out _).mono ?_
  rintro e w1 ⟨v1, rfl, hv1, hb⟩
  replace R6 := R6.step hb
  replace own0 := own0.step hb
  replace hB := hB.trans (hb.mono hB.size)
  have hz1 : w.heap.size + 1 ≤ w1.heap.size := Nat.le_trans (by simp) hb.size
  clear hb
  go_wp2_with (at_builtin; first
    | (refine wpList_appendBs Tryd.underlying27 Tryd.info8 rfl (.tmp 8) (.tmp 12) rfl (w.heap.size + 1) rfl own0 rfl hv1 E1.out L1.out (by omega) (by omega) ?_; intro A5 c5 w5 own5 bel5; have hB5 := hB.trans (bel5.mono (Nat.le_succ _)); have R65 := R6.below bel5 (Nat.lt_succ_self _); have hz5 := Nat.le_trans hz1 bel5.size; have ho5 := ho.step hB5; clear own0 hv1 bel5; clear hB R6 hz1)
    | (refine wpList_appendBs Tryd.underlying27 Tryd.info8 rfl (.tmp 14) (.tmp 15) rfl (w.heap.size + 1) rfl own5 rfl ho5 E2.out L2.out (by omega) (by omega) ?_; intro A6 c6 w6 own6 bel6; have hB6 := hB5.trans (bel6.mono (Nat.le_succ _)); have R66 := R65.below bel6 (Nat.lt_succ_self _); have hz6 := Nat.le_trans hz5 bel6.size; have ht6 := ht.step hB6; clear own5 ho5 bel6; clear hB5 R65 hz5)
    | (refine wpList_appendBs Tryd.underlying27 Tryd.info8 rfl (.tmp 18) (.tmp 19) rfl (w.heap.size + 1) rfl own6 rfl ht6 E3.out L3.out (by omega) (by omega) ?_; intro A7 c7 w7 own7 bel7; have hB7 := hB6.trans (bel7.mono (Nat.le_succ _)); have R67 := R66.below bel7 (Nat.lt_succ_self _); have hz7 := Nat.le_trans hz6 bel7.size; clear own6 ht6 bel7; clear hB6 R66 hz6))
  have hm7 := hm.below hB7 hrl
  refine (lsum_any r N _ P3 w7 hm7 (own7.bs (by rw [L3.out]; omega)) (by rw [L3.out]; omega) (by omega)).mono ?_
  rintro e w8 ⟨rfl, hl8, hu8⟩
  rw [DE.out]
  have R8 := R67.upd hu8 (by omega)
  have hu := (Upd.of (g := r) hB7).trans hu8
  have hr8 := R8.lt
  clear R67 own7 hm7 hB7 hu8
  have hst := rtrStore w8 w.heap.size (trC D 0) (by rw [R8.has, trC_size _ (zeros_length 32)]) (trC_size D hDl 0) (trC_one D 0)
  have R8h := R8.has; have R8r := R8.row; have R8l := R8.lt
  go_wp2_with fail
  refine bodyPost_retRow 6 _ w.heap.size 33 rfl rfl (by omega) (by kernel_rfl) (by kernel_rfl) ?_ rfl ?_
  · go_simp
  · go_simp
    obtain ⟨n, h0, h1, h2⟩ := hl8
    exact ⟨rfl, ⟨n, h0, by omega, h2.set_ne (by omega) _⟩, hu.setRow (by omega) _⟩
end
section
open Go.RowKit
attribute [local go_sem] trZ rtrStore trC_size trC_one rtrBuild rtrBuild2
def RowT (b : Nat) (h : List UInt8) (n : UInt32) (w : World) : Prop := RowIs w b (trC h n)
set_option maxRecDepth 100000 in
set_option maxHeartbeats 3200000 in
theorem refnext_any (r : Nat) (N : Int) (h : List UInt8) (hh : h.length = 32) (n : UInt32) (vb : Value) (b : List UInt8) (w : World) (hm : LogB w r N) (hb : Bs w vb b) (h1 : b.length ≤ 2000000) (hN : N ≤ 900000) :
    Calls Tryd.prog 46 #[.agg (trC h n), .pointer (some ⟨r, 0, none⟩), vb] w (LTr r (N + 1) (nextB h n b) (n + 1) w) := by
  obtain ⟨D, hD⟩ : ∃ D, D = nextB h n b := ⟨_, rfl⟩
  have hDl : D.length = 32 := by rw [hD, nextB_length]
  obtain ⟨H, hH⟩ : ∃ H, H = (lowB (UInt64.ofNat n.toNat) 8).reverse := ⟨_, rfl⟩
  have hHl : H.length = 8 := by rw [hH, List.length_reverse, lowB_length]
  obtain ⟨P0, hP0⟩ : ∃ P, P = ([110, 101, 120, 116] : List UInt8) := ⟨_, rfl⟩
  have hP0l : P0.length = 4 := by rw [hP0]; rfl
  obtain ⟨P1, hP1⟩ : ∃ P, P = P0 ++ H := ⟨_, rfl⟩
  have hP1l : P1.length = 12 := by rw [hP1, List.length_append, hP0l, hHl]
  obtain ⟨P2, hP2⟩ : ∃ P, P = P1 ++ h := ⟨_, rfl⟩
  have hP2l : P2.length = 44 := by rw [hP2, List.length_append, hP1l, hh]
  obtain ⟨P3, hP3⟩ : ∃ P, P = P2 ++ b := ⟨_, rfl⟩
  have hDe : shaB P3 = D := by rw [hD, nextB_def, hP3, hP2, hP1, hP0, hH]
  obtain ⟨nb, hnb⟩ : ∃ n, n = b.length := ⟨_, rfl⟩
  have hP3l : P3.length = nb + 44 := by rw [hP3, List.length_append, hP2l, ← hnb, Nat.add_comm]
  rw [← hD]
  have E1 := Lib.hid hP1.symm; have E2 := Lib.hid hP2.symm; have E3 := Lib.hid hP3.symm
  have L1 := Lib.hid hP1l; have L2 := Lib.hid hP2l; have L3 := Lib.hid hP3l
  have DE := Lib.hid hDe
  have hcv : n64 (UInt64.ofNat n.toNat) = n32 n := by rw [n64_def, n32_def, UInt64.toNat_ofNat']; have := n.toNat_lt; omega
  have hh8 := fun w => refHigh_bs (UInt64.ofNat n.toNat) 8 (by omega) 8 rfl w
  rw [hcv, ← hH] at hh8
  have HH := Lib.hid hh8
  have Z0 : u8s P0 = #[.int .u8 110, .int .u8 101, .int .u8 120, .int .u8 116] := by rw [hP0, lit4]
  have HZ0 := Lib.hid Z0
  have hnx : IntKind.u32.wrap (n32 n + 1) = n32 (n + 1) := by rw [n32_def, n32_def, UInt32.toNat_add, wrap_u32]; simp
  have HNX := Lib.hid hnx
  obtain ⟨A2, c2, rfl, -, -, -⟩ := id hb
  have hnb2 : nb ≤ 2000000 := by rw [hnb]; exact h1
  rw [← hnb] at *
  clear hD hH hP0 hP1 hP2 hP3 hDe hP1l hP2l hP3l hh8 Z0 hcv hnx hnb
  have hrl := hm.lt
  have hB : Below w.heap.size w (((w.alloc (.cells (trC h n) 66)).alloc (.cells (trC (zeros 32) 0) 66)).alloc (.cells #[.int .u8 110, .int .u8 101, .int .u8 120, .int .u8 116] 5)) := (by repeat (first | with_reducible exact Below.refl _ _ | with_reducible assumption | refine Below.drew ?_ | refine below_drewN ?_ | refine Below.alloc ?_ (by first | omega | (simp; done) | (simp; omega)) _ | refine below_setRow ?_ (by omega) _ | refine Below.setCell ?_ (by first | omega | (simp; done) | (simp; omega)) _))
  have R3 : RowIs (((w.alloc (.cells (trC h n) 66)).alloc (.cells (trC (zeros 32) 0) 66)).alloc (.cells #[.int .u8 110, .int .u8 101, .int .u8 120, .int .u8 116] 5)) w.heap.size (trC h n) := ((RowIs.new _ _ _).alloc _).alloc _
  have R6 : RowIs (((w.alloc (.cells (trC h n) 66)).alloc (.cells (trC (zeros 32) 0) 66)).alloc (.cells #[.int .u8 110, .int .u8 101, .int .u8 120, .int .u8 116] 5)) (w.heap.size + 1) (trC (zeros 32) 0) := (RowIs.new' (by simp)).alloc _
  have own0 : Own8 5 (((w.alloc (.cells (trC h n) 66)).alloc (.cells (trC (zeros 32) 0) 66)).alloc (.cells #[.int .u8 110, .int .u8 101, .int .u8 120, .int .u8 116] 5)) (w.heap.size + 2) (.slice (some ⟨w.heap.size + 2, 0, none⟩) 4 4) P0 := by
    have := Own8.new 5 ((w.alloc (.cells (trC h n) 66)).alloc (.cells (trC (zeros 32) 0) 66)) (w.heap.size + 2) P0 (by simp) (by rw [hP0l]; simp [maxLen])
    rw [hP0l, HZ0.out] at this
    simpa using this
  have K1 := TrRow.num (w := (((w.alloc (.cells (trC h n) 66)).alloc (.cells (trC (zeros 32) 0) 66)).alloc (.cells #[.int .u8 110, .int .u8 101, .int .u8 120, .int .u8 116] 5))) R3 hh
  have hw64 : IntKind.u64.wrap (n32 n) = n32 n := by rw [wrap_u64]; have := n32_lt n; have := n32_ge n; omega
  clear hP0l
  go_enter Tryd.func46, Tryd.ntmps46
  go_wp2_with fail
  refine (HH.out _).mono ?_
  rintro e w1 ⟨v1, rfl, hv1, hb1⟩
  replace R3 := R3.step hb1; replace R6 := R6.step hb1; replace own0 := own0.step hb1
  replace hB := hB.trans (hb1.mono hB.size)
  have hz1 : w.heap.size + 2 ≤ w1.heap.size := Nat.le_trans (by simp) hb1.size
  clear hb1 K1
  go_wp2_with (at_builtin; refine wpList_appendBs Tryd.underlying27 Tryd.info8 rfl (.tmp 8) (.tmp 12) rfl (w.heap.size + 2) rfl own0 rfl hv1 E1.out L1.out (by omega) (by omega) ?_; intro A5 c5 w5 own5 bel5; have hB5 := hB.trans (bel5.mono (by omega)); have R35 := R3.below bel5 (by omega); have R65 := R6.below bel5 (by omega); have hz5 := Nat.le_trans hz1 bel5.size; clear own0 hv1 bel5 hB R3 R6 hz1; have K5 := thead_row R35 hh)
  refine (bytes_any h hh _).mono ?_
  rintro e w6 ⟨A6, c6, rfl, own6, hb6⟩
  rw [hh] at own6 ⊢
  replace R35 := R35.step hb6; replace R65 := R65.step hb6; replace own5 := own5.step hb6
  replace hB5 := hB5.trans (hb6.mono hB5.size)
  replace hz5 := Nat.le_trans hz5 hb6.size
  have hbh := own6.bs (by omega)
  clear hb6 K5 own6
  go_wp2_with (at_builtin; refine wpList_appendBs Tryd.underlying27 Tryd.info8 rfl (.tmp 14) (.tmp 17) rfl (w.heap.size + 2) rfl own5 rfl hbh E2.out L2.out (by omega) (by omega) ?_; intro A7 c7 w7 own7 bel7; have hB7 := hB5.trans (bel7.mono (by omega)); have R37 := R35.below bel7 (by omega); have R67 := R65.below bel7 (by omega); have hz7 := Nat.le_trans hz5 bel7.size; clear own5 hbh bel7 hB5 R35 R65 hz5)
  have hnx := HNX.out
  have hd : Below w7.heap.size w7 w7.drew := (by repeat (first | with_reducible exact Below.refl _ _ | with_reducible assumption | refine Below.drew ?_ | refine below_drewN ?_ | refine Below.alloc ?_ (by first | omega | (simp; done) | (simp; omega)) _ | refine below_setRow ?_ (by omega) _ | refine Below.setCell ?_ (by first | omega | (simp; done) | (simp; omega)) _))
  refine wp_region_lexS [] [6] (RowT w.heap.size h n) (by kernel_rfl) (by decide +kernel) (R37.step hd) (fun hS => ?_)
  have own7d := own7.step hd
  have hB7d := hB7.trans (hd.mono hB7.size)
  have R67d := R67.step hd
  have hz7d : w.heap.size + 2 ≤ w7.drew.heap.size := hz7
  clear own7 hB7 R67 hz7 R37 hd
  generalize w7.drew = x at hS own7d hB7d R67d hz7d ⊢
  have hbx := hb.step hB7d
  (go_wp2_with (first | (refine wpLexS_nil ?_) | (refine wpLexS_pure rfl (fun _ _ => ?_); go_simp; refine ⟨_, fun w9 hw9 => (by have s1 := TrRow.num (show RowIs _ _ (trC h n) from hw9) hh; go_simp; rfl), ?_⟩) | (refine wpLexS_pure0 rfl (fun _ _ => ?_); go_simp; try go_bits) | (refine wpLexS_read rfl (fun _ _ => ?_); go_simp; try go_bits)))
  refine wpLexS_loud rfl (fun KL hKL => ?_)
  refine wpList_wanted (by rfl) (fun K1 hK1 => ?_)
  refine wp_appendBs Tryd.underlying27 Tryd.info8 (.tmp 20) (.tmp 21) rfl (w.heap.size + 2) rfl own7d rfl hbx E3.out L3.out (by omega) (by omega) ?_
  intro A8 c8 w8 own8 bel8
  refine hK1 _ _ ?_
  go_wp2_with fail
  replace hS : RowT w.heap.size h n w8 := RowIs.below hS bel8 (by omega)
  replace hB7d := hB7d.trans (bel8.mono (by omega))
  replace R67d := R67d.below bel8 (by omega)
  replace hz7d := Nat.le_trans hz7d bel8.size
  refine hKL _ _ hS (fun _ => ?_)
  clear own7d bel8 hbx
  have hm8 := hm.step hB7d
  have hb8 := own8.bs (by rw [L3.out]; omega)
  (go_wp2_with (first | (refine wpLexS_nil ?_) | (refine wpLexS_pure rfl (fun _ _ => ?_); go_simp; refine ⟨_, fun w9 hw9 => (by have s1 := TrRow.num (show RowIs _ _ (trC h n) from hw9) hh; go_simp; rfl), ?_⟩) | (refine wpLexS_pure0 rfl (fun _ _ => ?_); go_simp; try go_bits) | (refine wpLexS_read rfl (fun _ _ => ?_); go_simp; try go_bits)))
  refine wpLexS_loud rfl (fun KL hKL => ?_)
  go_wp2_with fail
  refine (lsum_any r N _ P3 w8 hm8 hb8 (by rw [L3.out]; omega) (by omega)).mono ?_
  rintro e w9' ⟨rfl, hl9, hu9⟩
  rw [DE.out]
  replace hS : RowT w.heap.size h n w9' := RowIs.upd hS hu9 (by omega)
  have R9 := R67d.upd hu9 (by omega)
  have hu := (Upd.of (g := r) hB7d).trans hu9
  clear R67d own8 hm8 hb8 hB7d hu9
  go_wp2_with fail
  refine hKL _ _ hS (fun _ => ?_)
  have hst := rtrStore w9' (w.heap.size + 1) (trC D (n + 1)) (by rw [R9.has, trC_size _ (zeros_length 32)]) (trC_size D hDl _) (trC_one D _)
  (go_wp2_with (first | (refine wpLexS_nil ?_) | (refine wpLexS_pure rfl (fun _ _ => ?_); go_simp; refine ⟨_, fun w9 hw9 => (by have s1 := TrRow.num (show RowIs _ _ (trC h n) from hw9) hh; go_simp; rfl), ?_⟩) | (refine wpLexS_pure0 rfl (fun _ _ => ?_); go_simp; try go_bits) | (refine wpLexS_read rfl (fun _ _ => ?_); go_simp; try go_bits)))
  refine wpLexS_loud rfl (fun KL hKL => ?_)
  go_wp2_with fail
  refine hKL _ _ (RowIs.set_ne hS (by omega) _) (fun _ => ?_)
  have hr9 := R9.lt
  have R9h := R9.has; have R9r := R9.row; have R9l := R9.lt
  clear hst
  (go_wp2_with (first | (refine wpLexS_nil ?_) | (refine wpLexS_pure rfl (fun _ _ => ?_); go_simp; refine ⟨_, fun w9 hw9 => (by have s1 := TrRow.num (show RowIs _ _ (trC h n) from hw9) hh; go_simp; rfl), ?_⟩) | (refine wpLexS_pure0 rfl (fun _ _ => ?_); go_simp; try go_bits) | (refine wpLexS_read rfl (fun _ _ => ?_); go_simp; try go_bits)))
  refine bodyPost_retRow 6 _ (w.heap.size + 1) 33 rfl rfl (by omega) (by kernel_rfl) (by kernel_rfl) ?_ rfl ?_
  · go_simp
  · go_simp
    obtain ⟨n', h0, h1, h2⟩ := hl9
    exact ⟨rfl, ⟨n', h0, by omega, h2.set_ne (by omega) _⟩, hu.setRow (by omega) _⟩
end
section
open Go.RowKit
theorem goLogBuild (w : World) : (Instr.build 44 #[]).run Tryd.prog w = .ok (.agg (logC 0)) w := by
  rw [logC_def]
  exact run_build w _ _ _ (by kernel_rfl)
theorem rnewTr (w : World) (H : List UInt8) (hH : H.length = 32) (n : UInt32) : (storeAgg 66 (.pointer (some ⟨w.heap.size, 0, none⟩)) (.agg (trC H n))).run Tryd.prog (w.alloc (.cells (trC (zeros 32) 0) 66)) = .ok .skip (w.alloc (.cells (trC H n) 66)) := by
  have R : RowIs (w.alloc (.cells (trC (zeros 32) 0) 66)) w.heap.size (trC (zeros 32) 0) := RowIs.new _ _ _
  rw [rtrStore _ w.heap.size (trC H n) (by rw [R.has, trC_size _ (zeros_length 32)]) (trC_size H hH n) (trC_one H n)]
  rw [setRow_alloc, if_neg (Nat.lt_irrefl _), if_pos rfl, objSet_cells]
theorem RdLs.bs2 {g : Nat} {w : World} {A : Option Addr} {c : Nat} {ls : List (List UInt8)} (h : RdLs w w.heap.size A ls) (hc : ls.length ≤ c) (hl : ls.length ≤ 1000) (hle : ∀ i, i < ls.length → (nthL ls i).length ≤ 2000000) (hg : w.heap.size ≤ g) : BsLx g w (.slice A ls.length c) ls := by
  refine ⟨A, c, rfl, hc, by omega, fun h0 => ?_⟩
  obtain ⟨b, o, e, hb, hr⟩ := h h0
  refine ⟨b, o, e, by omega, hb, fun i hi => ?_⟩
  obtain ⟨Ai, ci, h1, h2, h3⟩ := hr i hi
  exact ⟨_, h1, Bs.of h2 (by have := hle i hi; omega) h3⟩
theorem key_self3 (h : List UInt8) (hh : h.length = 32) (w : World) : (Op.equalIn 10000 33 (.agg (u8s h)) (.agg (u8s h))).run Tryd.prog w = .ok true w := by
  obtain ⟨i, hi⟩ := Option.isSome_iff_exists.1 (show (Tryd.prog.info? 5).isSome = true by kernel_rfl)
  rw [run_equalIn_array w 9999 (u8s h) (u8s h) Tryd.underlying33 hi, show Tryd.prog.cellsOf 5 = 1 by kernel_rfl, run_eqItems8 Tryd.underlying5 9998 h h w _ (fun j hj => by rw [List.mem_range] at hj; omega)]
  exact congrArg (fun b => Result.ok b w) (List.all_eq_true.2 fun i _ => by simp)
attribute [local go_sem ↓] xtrBuild xtrLoad xtrStore
attribute [local go_sem] trZ trC_size trC_one trEq newTr rnewTr goLogBuild
def GoS (b gl ol : Nat) (T : Array Value) (v : Value) (w : World) : Prop := RowIs w b T ∧ w.cell? ⟨gl, ol, none⟩ = some v
set_option maxRecDepth 100000 in
set_option maxHeartbeats 6400000 in
theorem trailgoes_any (A1 : Option Addr) (c1 : Nat) (one : List UInt8) (A2 : Option Addr) (c2 : Nat) (two : List UInt8) (h : List UInt8) (hh : h.length = 32) (n : UInt32) (A : Option Addr) (c : Nat) (ls : List (List UInt8)) (w : World) (he : ShaEnv w)
    (ho : Bs w (.slice A1 one.length c1) one) (ht : Bs w (.slice A2 two.length c2) two) (hc : ls.length ≤ c) (hr : RdLs w w.heap.size A ls) (h1 : one.length ≤ 200) (h2 : two.length ≤ 200) (hl : ls.length ≤ 10) (hle : ∀ i, i < ls.length → (nthL ls i).length ≤ 2000000) :
    Calls Tryd.prog 13 #[.slice A1 one.length c1, .slice A2 two.length c2, .agg (trC h n), .slice A ls.length c] w (TrueRes' w) := by
  obtain ⟨S, hS⟩ : ∃ S, S = startB one two := ⟨_, rfl⟩
  have hSl : S.length = 32 := by rw [hS, startB_length]
  have cs := fun g (W : World) N q1 q2 q3 q4 (hN : N ≤ 900000) => tstart_any g N (.slice A1 one.length c1) (.slice A2 two.length c2) one two W q1 q2 q3 q4 (by omega) (by omega) hN
  have cr := fun g (W : World) N q1 q3 q4 (hN : N ≤ 900000) => refstart_any g N (.slice A1 one.length c1) (.slice A2 two.length c2) one two W q1 q3 q4 (by omega) (by omega) hN
  unfold TrRes at cs
  unfold LTr at cr
  rw [← hS] at cs cr
  have CS := Lib.hid cs; have CR := Lib.hid cr
  have HR := Lib.hid hr; have HLE := Lib.hid hle
  obtain ⟨m, hm⟩ : ∃ m, m = ls.length := ⟨_, rfl⟩
  have HM := Lib.hid hm
  obtain ⟨n1, hn1⟩ : ∃ m, m = one.length := ⟨_, rfl⟩
  obtain ⟨n2, hn2⟩ : ∃ m, m = two.length := ⟨_, rfl⟩
  rw [← hn1] at h1 ho CS CR ⊢
  rw [← hn2] at h2 ht CS CR ⊢
  rw [← hm] at hc hl ⊢
  have i1 : ¬ (10 : Int) < m := by omega
  have i2 : ¬ (200 : Int) < n1 := by omega
  have i3 : ¬ (200 : Int) < n2 := by omega
  have hr1 := he.rounds.lt
  have hr2 := he.start.lt
  clear cs cr hr hle hm hn1 hn2 hS
  have hq : Below w.heap.size w (w.alloc (.cells (trC h n) 64)) := (by repeat (first | with_reducible exact Below.refl _ _ | with_reducible assumption | refine Below.drew ?_ | refine below_drewN ?_ | refine Below.alloc ?_ (by first | omega | (simp; done) | (simp; omega)) _ | refine below_setRow ?_ (by omega) _ | refine Below.setCell ?_ (by first | omega | (simp; done) | (simp; omega)) _))
  have RT : RowIs (w.alloc (.cells (trC h n) 64)) w.heap.size (trC h n) := RowIs.new _ _ _
  replace he := he.step hq
  go_enter Tryd.func13, Tryd.ntmps13
  go_wp2_with fail
  refine (awake14_any _ he).mono ?_
  rintro e w1 ⟨rfl, hb⟩
  replace RT := RT.step hb; replace he := he.step hb
  have HB := hq.trans (hb.mono hq.size)
  have hz1 : w.heap.size < w1.heap.size := RT.lt
  clear hq hb
  go_wp2_with fail
  refine (new_any false _).mono ?_
  rintro e w2 ⟨g, rfl, hm0, hg, hb⟩
  have hm := MetB.new14 hm0
  replace RT := RT.step hb; replace he := he.step hb
  replace HB := HB.trans (hb.mono HB.size)
  have hgl := hm.lt
  have hz2 := HB.size
  clear hm0 hb
  have hq : Below w2.heap.size w2 (w2.alloc (.cells (logC 0) 44)) := (by repeat (first | with_reducible exact Below.refl _ _ | with_reducible assumption | refine Below.drew ?_ | refine below_drewN ?_ | refine Below.alloc ?_ (by first | omega | (simp; done) | (simp; omega)) _ | refine below_setRow ?_ (by omega) _ | refine Below.setCell ?_ (by first | omega | (simp; done) | (simp; omega)) _))
  have hlog : LogB (w2.alloc (.cells (logC 0) 44)) w2.heap.size 0 := ⟨0, by omega, by omega, RowIs.new _ _ _⟩
  replace RT := RT.step hq; replace he := he.step hq; replace hm := hm.step hq
  replace HB := HB.trans (hq.mono HB.size)
  clear hq
  go_wp2_with fail
  rw [← logC_def 0]
  generalize w2.alloc (.cells (logC 0) 44) = w3 at RT he hm HB hlog ⊢
  obtain ⟨q, hq⟩ : ∃ q, q = w2.heap.size := ⟨_, rfl⟩
  rw [← hq] at hlog hgl hz2 ⊢
  clear hq
  refine (CS.out g w3 0 hm he (ho.step HB) (ht.step HB) (by omega)).mono ?_
  rintro e w4 ⟨rfl, hm', hu⟩
  replace RT := RT.upd hu (by omega)
  replace hlog := hlog.upd hu (by omega)
  replace he := hm.env he hu
  replace HB := hu.below HB (by omega) HB.size
  have hm := hm'
  have hql := hlog.lt
  clear hu hm'
  have hb : Below w4.heap.size w4 (w4.alloc (.cells (trC S 0) 64)) := (by repeat (first | with_reducible exact Below.refl _ _ | with_reducible assumption | refine Below.drew ?_ | refine below_drewN ?_ | refine Below.alloc ?_ (by first | omega | (simp; done) | (simp; omega)) _ | refine below_setRow ?_ (by omega) _ | refine Below.setCell ?_ (by first | omega | (simp; done) | (simp; omega)) _))
  have RA : RowIs (w4.alloc (.cells (trC S 0) 64)) w4.heap.size (trC S 0) := RowIs.new _ _ _
  replace RT := RT.step hb; replace he := he.step hb; replace hm := hm.step hb; replace hlog := hlog.step hb
  replace HB := HB.trans (hb.mono HB.size)
  clear hb
  go_wp2_with fail
  generalize w4.alloc (.cells (trC S 0) 64) = w5 at RT RA he hm HB hlog ⊢
  obtain ⟨ra, hra⟩ : ∃ q, q = w4.heap.size := ⟨_, rfl⟩
  rw [← hra] at RA hql ⊢
  clear hra
  refine (CR.out q w5 0 hlog (ho.step HB) (ht.step HB) (by omega)).mono ?_
  rintro e w6 ⟨rfl, hlog', hu⟩
  replace RT := RT.upd hu (by omega)
  replace RA := RA.upd hu (by omega)
  replace hm := hm.upd hu (by omega)
  replace he := hlog.env he hu
  replace HB := hu.below HB (by omega) HB.size
  have hlog := hlog'
  have hral := RA.lt
  clear hu hlog'
  have hb : Below w6.heap.size w6 (w6.alloc (.cells (trC S 0) 66)) := (by repeat (first | with_reducible exact Below.refl _ _ | with_reducible assumption | refine Below.drew ?_ | refine below_drewN ?_ | refine Below.alloc ?_ (by first | omega | (simp; done) | (simp; omega)) _ | refine below_setRow ?_ (by omega) _ | refine Below.setCell ?_ (by first | omega | (simp; done) | (simp; omega)) _))
  have RB : RowIs (w6.alloc (.cells (trC S 0) 66)) w6.heap.size (trC S 0) := RowIs.new _ _ _
  replace RT := RT.step hb; replace RA := RA.step hb; replace he := he.step hb; replace hm := hm.step hb; replace hlog := hlog.step hb
  replace HB := HB.trans (hb.mono HB.size)
  clear hb
  have K1 := thead_row RT hh
  have K2 := TrRow.num (w := w6.alloc (.cells (trC S 0) 66)) RT hh
  have hb : Below (w6.alloc (.cells (trC S 0) 66)).heap.size (w6.alloc (.cells (trC S 0) 66)) ((w6.alloc (.cells (trC S 0) 66)).alloc (.cells (trC h n) 66)) := (by repeat (first | with_reducible exact Below.refl _ _ | with_reducible assumption | refine Below.drew ?_ | refine below_drewN ?_ | refine Below.alloc ?_ (by first | omega | (simp; done) | (simp; omega)) _ | refine below_setRow ?_ (by omega) _ | refine Below.setCell ?_ (by first | omega | (simp; done) | (simp; omega)) _))
  have RR : RowIs ((w6.alloc (.cells (trC S 0) 66)).alloc (.cells (trC h n) 66)) (w6.heap.size + 1) (trC h n) := RowIs.new' (by simp)
  have RB' := RB.lt
  have hst : (storeAgg 66 (.pointer (some ⟨w6.heap.size + 1, 0, none⟩)) (.agg (trC h n))).run Tryd.prog ((w6.alloc (.cells (trC S 0) 66)).alloc (.cells (trC (zeros 32) 0) 66)) = .ok .skip ((w6.alloc (.cells (trC S 0) 66)).alloc (.cells (trC h n) 66)) := by
    have h9 := rnewTr (w6.alloc (.cells (trC S 0) 66)) h hh n
    rw [show (w6.alloc (.cells (trC S 0) 66)).heap.size = w6.heap.size + 1 by simp] at h9
    exact h9
  replace RT := RT.step hb; replace RA := RA.step hb; replace RB := RB.step hb; replace he := he.step hb; replace hm := hm.step hb; replace hlog := hlog.step hb
  replace HB := HB.trans (hb.mono HB.size)
  have K3 := trload RT hh
  clear hb
  have hbl : BsLx g w (.slice A ls.length c) ls := RdLs.bs2 HR.out (by rw [← HM.out]; exact hc) (by rw [← HM.out]; omega) HLE.out (by omega)
  rw [← HM.out] at hbl
  have ca := fun (W : World) q1 q2 q3 => tall_any g 1 h hh n (.slice A m c) ls W q1 q2 q3 (by rw [← HM.out]; omega) HLE.out (by omega)
  unfold TrRes at ca
  rw [← HM.out] at ca
  have hlK := trK_len h hh n ls m
  obtain ⟨hL, hhL⟩ : ∃ x, x = (trK h n ls m).1 := ⟨_, rfl⟩
  obtain ⟨nL, hnL⟩ : ∃ x, x = (trK h n ls m).2 := ⟨_, rfl⟩
  rw [← hhL, ← hnL] at ca
  rw [← hhL] at hlK
  have HHL := Lib.hid hhL; have HNL := Lib.hid hnL
  clear hhL hnL
  have CA := Lib.hid ca
  have HBL := Lib.hid hbl
  clear ca hbl
  go_wp2_with fail
  generalize (w6.alloc (.cells (trC S 0) 66)).alloc (.cells (trC h n) 66) = w8 at RT RA RB RR he hm HB hlog K3 ⊢
  obtain ⟨rb, hrb⟩ : ∃ q, q = w6.heap.size := ⟨_, rfl⟩
  rw [← hrb] at RB RR hral ⊢
  clear hrb K1 K2 K3 hst
  have hrbl := RR.lt
  refine (CA.out w8 (hm.mono (by omega)) he (HBL.out.step HB)).mono ?_
  rintro e w9 ⟨rfl, hm', hu⟩
  replace RT := RT.upd hu (by omega)
  replace RA := RA.upd hu (by omega)
  replace RB := RB.upd hu (by omega)
  replace RR := RR.upd hu (by omega)
  replace hlog := hlog.upd hu (by omega)
  replace he := hm.env he hu
  replace HB := hu.below HB (by omega) HB.size
  have hrbl := RR.lt
  have hm := hm'
  clear hu hm' CA HBL
  have hb : Below w9.heap.size w9 (w9.alloc (.cells (trC hL nL) 64)) := (by repeat (first | with_reducible exact Below.refl _ _ | with_reducible assumption | refine Below.drew ?_ | refine below_drewN ?_ | refine Below.alloc ?_ (by first | omega | (simp; done) | (simp; omega)) _ | refine below_setRow ?_ (by omega) _ | refine Below.setCell ?_ (by first | omega | (simp; done) | (simp; omega)) _))
  have RC : RowIs (w9.alloc (.cells (trC hL nL) 64)) w9.heap.size (trC hL nL) := RowIs.new _ _ _
  replace RT := RT.step hb; replace RA := RA.step hb; replace RB := RB.step hb; replace RR := RR.step hb; replace he := he.step hb; replace hm := hm.step hb; replace hlog := hlog.step hb
  replace HB := HB.trans (hb.mono HB.size)
  clear hb
  go_wp2_with fail
  generalize w9.alloc (.cells (trC hL nL) 64) = x0 at RT RA RB RR RC he hm HB hlog ⊢
  obtain ⟨rc, hrc⟩ : ∃ q, q = w9.heap.size := ⟨_, rfl⟩
  rw [← hrc] at RC hrbl ⊢
  clear hrc
  go_loopw [16] (fun i wr => ∃ k : Nat, i = .int .i64 k ∧ k ≤ m ∧ RowIs wr w.heap.size (trC (trK h n ls k).1 (trK h n ls k).2) ∧ RowIs wr (rb + 1) (trC (trK h n ls k).1 (trK h n ls k).2) ∧ MetB wr g (1 + m + k) ∧ LogB wr q (1 + k) ∧ ShaEnv wr ∧ RowIs wr ra (trC S 0) ∧ RowIs wr rb (trC S 0) ∧ RowIs wr rc (trC hL nL) ∧ Below w.heap.size w wr) (fun i _ => m - (intOf i).toNat)
  case atStart => exact ⟨0, rfl, by omega, RT, RR, hm.mono (by omega), hlog.mono (by omega), he, RA, RB, RC, HB⟩
  case round =>
    clear RT RA RB RR RC he hm HB hlog
    obtain ⟨k, rfl, hk, RT, RR, hm, hlog, he, RA, RB, RC, HB⟩ := hrel
    have hlk := trK_len h hh n ls k
    obtain ⟨h1, hh1⟩ : ∃ h', h' = (trK h n ls k).1 := ⟨_, rfl⟩
    obtain ⟨m1, hm1⟩ : ∃ m, m = (trK h n ls k).2 := ⟨_, rfl⟩
    rw [← hh1, ← hm1] at RT RR
    rw [← hh1] at hlk
    have HH := Lib.hid hh1; have HN := Lib.hid hm1
    clear hh1 hm1
    by_cases hlt : k < m
    · have hlt' : k < ls.length := by rw [← HM.out]; exact hlt
      obtain ⟨gl, ol, rfl, hgl1, hat⟩ := HR.out (by omega)
      obtain ⟨Ai, ci, t0, hci, hrd⟩ := hat k hlt'
      have hbB := HLE.out k hlt'
      obtain ⟨b, hb⟩ : ∃ b, b = nthL ls k := ⟨_, rfl⟩
      obtain ⟨qn, hq⟩ : ∃ q, q = b.length := ⟨_, rfl⟩
      rw [← hb] at t0 hci hrd hbB
      rw [← hq] at t0 hci hbB
      have f0 := (HB.cell (p := ⟨gl, ol + k, none⟩) hgl1).trans t0
      have hk0 : (0 : Int) ≤ (k : Int) := by omega
      have hk1 : (k : Int) < m := by omega
      have HBb := Lib.hid hb; have HQ := Lib.hid hq
      clear hat
      by_cases h300 : qn ≤ 300
      · have j1 : ¬ (300 : Int) < qn := by omega
        have hbs0 : Bs w (.slice Ai qn ci) b := Bs.of' (w := w) hq.symm hci (by omega) hrd
        have hql : b.length ≤ 300 := by omega
        have hnx : nextB h1 m1 b = (trK h n ls (k + 1)).1 := by rw [trK, HH.out, HN.out, hb]
        have hnx2 : m1 + 1 = (trK h n ls (k + 1)).2 := by rw [trK, HN.out]
        have cc := fun (W : World) q1 q2 q3 => tnext_any g (1 + m + k) h1 hlk m1 (.slice Ai qn ci) b W q1 q2 q3 (by omega) (by omega)
        have cd := fun (W : World) q1 q3 => refnext_any q (1 + k) h1 hlk m1 (.slice Ai qn ci) b W q1 q3 (by omega) (by omega)
        unfold TrRes at cc
        unfold LTr at cd
        have hlk2 := trK_len h hh n ls (k + 1)
        obtain ⟨h2, hh2⟩ : ∃ h', h' = (trK h n ls (k + 1)).1 := ⟨_, rfl⟩
        obtain ⟨m2, hm2⟩ : ∃ m, m = (trK h n ls (k + 1)).2 := ⟨_, rfl⟩
        rw [hnx, hnx2, ← hh2, ← hm2] at cc cd
        rw [← hh2] at hlk2
        have HH2 := Lib.hid hh2; have HM2 := Lib.hid hm2
        have CC := Lib.hid cc; have CD := Lib.hid cd
        clear hb hq hnx hnx2 hh2 hm2 cc cd
        have kself := key_self3 h2 hlk2
        go_wp2_with fail
        refine wp_region_lexT [] [0, 5] (GoS w.heap.size gl (ol + k) (trC h1 m1) (.slice Ai qn ci)) (by kernel_rfl) (by decide +kernel) ⟨RT.drew, f0⟩ (fun hS => ?_)
        have hd : Below wr.heap.size wr wr.drew := (by repeat (first | with_reducible exact Below.refl _ _ | with_reducible assumption | refine Below.drew ?_ | refine below_drewN ?_ | refine Below.alloc ?_ (by first | omega | (simp; done) | (simp; omega)) _ | refine below_setRow ?_ (by omega) _ | refine Below.setCell ?_ (by first | omega | (simp; done) | (simp; omega)) _))
        replace RT := RT.step hd; replace RR := RR.step hd; replace RA := RA.step hd; replace RB := RB.step hd; replace RC := RC.step hd; replace hm := hm.step hd; replace hlog := hlog.step hd; replace he := he.step hd
        replace HB := HB.trans (hd.mono HB.size)
        have hbs := hbs0.step HB
        generalize wr.drew = x at RT RR RA RB RC hm hlog he HB hbs hS ⊢
        clear hd f0
        (go_wp2_with (first | (refine wpLexT_pure rfl (fun _ _ => ?_); go_simp; refine ⟨_, fun w9 hw9 => (by have s1 := trload hw9.1 hlk; have s2 := hw9.2; go_simp; rfl), ?_⟩) | (refine wpLexT_pure0 rfl (fun _ _ => ?_); go_simp; try go_bits) | (refine wpLexT_read rfl (fun _ _ => ?_); go_simp; try go_bits) | (refine wpLexT_loud rfl (fun KL hKL => ?_))))
        refine (CC.out x hm he hbs).mono ?_
        rintro e x1 ⟨rfl, hm1, hu⟩
        replace RT := RT.upd hu (by omega)
        replace RR := RR.upd hu (by omega)
        replace RA := RA.upd hu (by omega)
        replace RB := RB.upd hu (by omega)
        replace RC := RC.upd hu (by omega)
        replace hlog := hlog.upd hu (by omega)
        replace he := hm.env he hu
        replace HB := hu.below HB (by omega) HB.size
        have f1 := (HB.cell (p := ⟨gl, ol + k, none⟩) hgl1).trans t0
        clear hm hu hbs hS
        have hm := hm1
        clear hm1
        go_wp2_with fail
        refine hKL _ _ ⟨RT, f1⟩ (fun _ => ?_)
        have hst := trStore x1 w.heap.size (trC h2 m2) (by rw [RT.has, trC_size _ hlk]) (trC_size h2 hlk2 _) (trC_one h2 _)
        refine wpLexT_last (fun KL hKL => ?_)
        have RT' := RT.set (trC h2 m2)
        replace RR := RR.set_ne (show rb + 1 ≠ w.heap.size by omega) (trC h2 m2)
        replace RA := RA.set_ne (show ra ≠ w.heap.size by omega) (trC h2 m2)
        replace RB := RB.set_ne (show rb ≠ w.heap.size by omega) (trC h2 m2)
        replace RC := RC.set_ne (show rc ≠ w.heap.size by omega) (trC h2 m2)
        replace hm := hm.setRow_ne (show g ≠ w.heap.size by omega) (trC h2 m2)
        replace hlog : LogB (x1.setRow w.heap.size (trC h2 m2)) q (1 + k) := by obtain ⟨i, q0, q1, q2⟩ := hlog; exact ⟨i, q0, q1, q2.set_ne (by omega) _⟩
        replace he : ShaEnv (x1.setRow w.heap.size (trC h2 m2)) := ⟨he.rounds.set_ne (by omega) _, he.start.set_ne (by omega) _⟩
        replace HB : Below w.heap.size w (x1.setRow w.heap.size (trC h2 m2)) := below_setRow HB (by omega) _
        have f2 := (HB.cell (p := ⟨gl, ol + k, none⟩) hgl1).trans t0
        clear RT f1
        go_wp2_with fail
        clear hst
        generalize x1.setRow w.heap.size (trC h2 m2) = y0 at RT' RR RA RB RC hm hlog he HB f2 ⊢
        have RT := RT'
        clear RT'
        refine wp_region_lexT [] [0, 5] (GoS (rb + 1) gl (ol + k) (trC h1 m1) (.slice Ai qn ci)) (by kernel_rfl) (by decide +kernel) ⟨RR.drew, f2⟩ (fun hS => ?_)
        have hd : Below y0.heap.size y0 y0.drew := (by repeat (first | with_reducible exact Below.refl _ _ | with_reducible assumption | refine Below.drew ?_ | refine below_drewN ?_ | refine Below.alloc ?_ (by first | omega | (simp; done) | (simp; omega)) _ | refine below_setRow ?_ (by omega) _ | refine Below.setCell ?_ (by first | omega | (simp; done) | (simp; omega)) _))
        replace RT := RT.step hd; replace RR := RR.step hd; replace RA := RA.step hd; replace RB := RB.step hd; replace RC := RC.step hd; replace hm := hm.step hd; replace hlog := hlog.step hd; replace he := he.step hd
        replace HB := HB.trans (hd.mono HB.size)
        have hbs := hbs0.step HB
        generalize y0.drew = x at RT RR RA RB RC hm hlog he HB hbs hS ⊢
        clear hd f2
        (go_wp2_with (first | (refine wpLexT_pure rfl (fun _ _ => ?_); go_simp; refine ⟨_, fun w9 hw9 => (by have s1 := rtrload hw9.1 hlk; have s2 := hw9.2; go_simp; rfl), ?_⟩) | (refine wpLexT_pure0 rfl (fun _ _ => ?_); go_simp; try go_bits) | (refine wpLexT_read rfl (fun _ _ => ?_); go_simp; try go_bits) | (refine wpLexT_loud rfl (fun KL hKL => ?_))))
        refine (CD.out x hlog hbs).mono ?_
        rintro e x1 ⟨rfl, hl1, hu⟩
        replace RT := RT.upd hu (by omega)
        replace RR := RR.upd hu (by omega)
        replace RA := RA.upd hu (by omega)
        replace RB := RB.upd hu (by omega)
        replace RC := RC.upd hu (by omega)
        replace hm := hm.upd hu (by omega)
        replace he := hlog.env he hu
        replace HB := hu.below HB (by omega) HB.size
        have f1 := (HB.cell (p := ⟨gl, ol + k, none⟩) hgl1).trans t0
        clear hlog hu hbs hS
        have hlog := hl1
        clear hl1
        go_wp2_with fail
        refine hKL _ _ ⟨RR, f1⟩ (fun _ => ?_)
        have hst := rtrStore x1 (rb + 1) (trC h2 m2) (by rw [RR.has, trC_size _ hlk]) (trC_size h2 hlk2 _) (trC_one h2 _)
        refine wpLexT_last (fun KL hKL => ?_)
        have RR' := RR.set (trC h2 m2)
        replace RT := RT.set_ne (show w.heap.size ≠ rb + 1 by omega) (trC h2 m2)
        replace RA := RA.set_ne (show ra ≠ rb + 1 by omega) (trC h2 m2)
        replace RB := RB.set_ne (show rb ≠ rb + 1 by omega) (trC h2 m2)
        replace RC := RC.set_ne (show rc ≠ rb + 1 by omega) (trC h2 m2)
        replace hm := hm.setRow_ne (show g ≠ rb + 1 by omega) (trC h2 m2)
        replace hlog : LogB (x1.setRow (rb + 1) (trC h2 m2)) q (1 + k + 1) := by obtain ⟨i, q0, q1, q2⟩ := hlog; exact ⟨i, q0, q1, q2.set_ne (by omega) _⟩
        replace he : ShaEnv (x1.setRow (rb + 1) (trC h2 m2)) := ⟨he.rounds.set_ne (by omega) _, he.start.set_ne (by omega) _⟩
        replace HB : Below w.heap.size w (x1.setRow (rb + 1) (trC h2 m2)) := below_setRow HB (by omega) _
        clear RR f1
        have K1 := thead_row RT hlk2
        have K2 := thead_row RR' hlk2
        have K3 := TrRow.num (w := x1.setRow (rb + 1) (trC h2 m2)) RT hlk2
        have K4 := TrRow.num (w := x1.setRow (rb + 1) (trC h2 m2)) RR' hlk2
        go_wp2_with fail
        exact ⟨⟨k + 1, by go_num, by omega, by rw [← HH2.out, ← HM2.out]; exact RT, by rw [← HH2.out, ← HM2.out]; exact RR', hm.mono (by omega), hlog.mono (by omega), he, RA, RB, RC, HB⟩, by simp [intOf]; omega⟩
      · have j1 : (300 : Int) < qn := by omega
        clear hb hq hrd
        go_wp2_with fail
        go_ret
        exact ⟨rfl, HB⟩
    · have ek : k = m := by omega
      subst ek
      have hne : ¬ ((k : Int) < k) := by omega
      rw [HH.out, HN.out, ← HHL.out, ← HNL.out] at RT
      have K1 := thead_row RA hSl
      have K2 := thead_row RB hSl
      have K3 := TrRow.num (w := wr) RA hSl
      have K4 := key_self3 S hSl
      have K5 := trload RC hlK
      have K6 := trload RT hlK
      have K7 := trEq hL hlK nL
      have K8 : (n32 0 : Int) = 0 := by rw [n32_def]; rfl
      go_wp2_with fail
      go_ret
      exact ⟨rfl, HB⟩
set_option maxRecDepth 100000 in
set_option maxHeartbeats 1600000 in
theorem trailgoes_early (A1 : Option Addr) (c1 n1 : Nat) (A2 : Option Addr) (c2 n2 : Nat) (h : List UInt8) (n : UInt32) (A : Option Addr) (c m : Nat) (w : World) (he : ShaEnv w) (hbad : 200 < n1 ∨ 200 < n2 ∨ 10 < m) :
    Calls Tryd.prog 13 #[.slice A1 n1 c1, .slice A2 n2 c2, .agg (trC h n), .slice A m c] w (TrueRes' w) := by
  have hq : Below w.heap.size w (w.alloc (.cells (trC h n) 64)) := (by repeat (first | with_reducible exact Below.refl _ _ | with_reducible assumption | refine Below.drew ?_ | refine below_drewN ?_ | refine Below.alloc ?_ (by first | omega | (simp; done) | (simp; omega)) _ | refine below_setRow ?_ (by omega) _ | refine Below.setCell ?_ (by first | omega | (simp; done) | (simp; omega)) _))
  replace he := he.step hq
  by_cases q1 : 200 < n1
  · have i1 : (200 : Int) < n1 := by omega
    clear hbad
    go_enter Tryd.func13, Tryd.ntmps13
    go_wp2_with fail
    refine (awake14_any _ he).mono ?_
    rintro e w1 ⟨rfl, hb⟩
    replace hb := hq.trans (hb.mono hq.size)
    go_wp2_with fail
    go_ret
    exact ⟨rfl, hb⟩
  · have i1 : ¬ (200 : Int) < n1 := by omega
    by_cases q2 : 200 < n2
    · have i2 : (200 : Int) < n2 := by omega
      clear hbad
      go_enter Tryd.func13, Tryd.ntmps13
      go_wp2_with fail
      refine (awake14_any _ he).mono ?_
      rintro e w1 ⟨rfl, hb⟩
      replace hb := hq.trans (hb.mono hq.size)
      go_wp2_with fail
      go_ret
      exact ⟨rfl, hb⟩
    · have i2 : ¬ (200 : Int) < n2 := by omega
      have i3 : (10 : Int) < m := by omega
      clear hbad
      go_enter Tryd.func13, Tryd.ntmps13
      go_wp2_with fail
      refine (awake14_any _ he).mono ?_
      rintro e w1 ⟨rfl, hb⟩
      replace hb := hq.trans (hb.mono hq.size)
      go_wp2_with fail
      go_ret
      exact ⟨rfl, hb⟩
theorem walk_TrailGoes (A1 : Option Addr) (c1 : Nat) (one : List UInt8) (A2 : Option Addr) (c2 : Nat) (two : List UInt8) (h : List UInt8) (n : UInt32) (A : Option Addr) (c : Nat) (ls : List (List UInt8)) (w : World) (he : ShaEnv w)
    (hc1 : one.length ≤ c1) (hr1 : Rd8 w w.heap.size A1 one) (hc2 : two.length ≤ c2) (hr2 : Rd8 w w.heap.size A2 two) (hh : h.length = 32) (hc : ls.length ≤ c) (hr : RdLs w w.heap.size A ls) (hle : ∀ i, i < ls.length → (nthL ls i).length ≤ 2000000) :
    Calls Tryd.prog 13 #[.slice A1 one.length c1, .slice A2 two.length c2, .agg (trC h n), .slice A ls.length c] w (TrueRes' w) := by
  by_cases q : one.length ≤ 200 ∧ two.length ≤ 200 ∧ ls.length ≤ 10
  · obtain ⟨q1, q2, q3⟩ := q
    exact trailgoes_any A1 c1 one A2 c2 two h hh n A c ls w he (Bs.of' (w := w) rfl hc1 (by omega) hr1) (Bs.of' (w := w) rfl hc2 (by omega) hr2) hc hr q1 q2 q3 hle
  · exact trailgoes_early A1 c1 one.length A2 c2 two.length h n A c ls.length w he (by omega)
end
end Go.Proofs.YtopmdbmnlflpgaaDoor
