/- Layer 26: pick: the first one that is right is taken off, wherever it stands. -/
import Derived.Test.YtlfplikkifjnfaaMdl8
namespace Go.Proofs.Ytlfplikkifjnfaa
open Go.RowKit
theorem BsL.take {w : World} {A : Option Addr} {n c : Nat} {ls : BL} (h : BsL w (.slice A n c) ls) (k : Nat) (hk : k ≤ n) : BsL w (.slice A k c) (ls.take k) := by
  obtain ⟨A', c', h1, h2, h3, h4⟩ := h
  injection h1 with e1 e2 e3
  subst e1; subst e2; subst e3
  have hl : (ls.take k).length = k := by simp; omega
  refine ⟨A, c, by rw [hl], by omega, by omega, fun h0 => ?_⟩
  rw [hl] at h0
  obtain ⟨b, o, rfl, hb, hr2⟩ := h4 (by omega)
  refine ⟨b, o, rfl, hb, fun i hi => ?_⟩
  rw [hl] at hi
  have : nthL (ls.take k) i = nthL ls i := by
    rw [nthL_def, nthL_def, List.getD_eq_getElem?_getD, List.getD_eq_getElem?_getD, List.getElem?_take, if_pos hi]
  rw [this]
  exact hr2 i (by omega)
theorem BsL.drop {w : World} {A : Option Addr} {n c : Nat} {ls : BL} (h : BsL w (.slice A n c) ls) (k : Nat) (hk : k ≤ n) : BsL w (.slice (subA A c k) (n - k) (c - k)) (ls.drop k) := by
  obtain ⟨A', c', h1, h2, h3, h4⟩ := h
  injection h1 with e1 e2 e3
  subst e1; subst e3
  rw [← e2] at h2 h3
  have hl : (ls.drop k).length = n - k := by rw [List.length_drop, ← e2]
  refine ⟨subA A c k, c - k, by rw [hl], by rw [hl]; exact Nat.sub_le_sub_right h2 k, by rw [hl]; exact Nat.le_trans (Nat.sub_le _ _) h3, fun h0 => ?_⟩
  rw [hl] at h0
  have hkn : k < n := Nat.lt_of_sub_pos h0
  obtain ⟨b, o, rfl, hb, hr2⟩ := h4 (by rw [← e2]; exact Nat.lt_of_le_of_lt (Nat.zero_le _) hkn)
  refine ⟨b, o + k, by rw [subA_def, if_neg (Nat.ne_of_gt (Nat.lt_of_lt_of_le hkn h2))]; simp [Addr.add], hb, fun i hi => ?_⟩
  rw [hl] at hi
  have : nthL (ls.drop k) i = nthL ls (k + i) := by
    rw [nthL_def, nthL_def, List.getD_eq_getElem?_getD, List.getD_eq_getElem?_getD, List.getElem?_drop]
  rw [this, show o + k + i = o + (k + i) from Nat.add_assoc _ _ _]
  exact hr2 (k + i) (by rw [← e2, Nat.add_comm]; exact Nat.add_lt_of_lt_sub hi)
def pickP (u : List UInt8) : BL → BL
  | [] => []
  | m :: r => if m = u then r else m :: pickP u r
theorem pickP_none (u : List UInt8) : ∀ ls : BL, (∀ j, j < ls.length → nthL ls j ≠ u) → pickP u ls = ls
  | [], _ => rfl
  | m :: r, h => by
    have h0 : ¬ m = u := by have := h 0 (by simp); rw [nthL_def] at this; exact this
    rw [pickP, if_neg h0, pickP_none u r (fun j hj => by have := h (j + 1) (by simpa using hj); rw [nthL_def] at this ⊢; exact this)]
theorem pickP_at (u : List UInt8) : ∀ (ls : BL) (i : Nat), i < ls.length → nthL ls i = u → (∀ j, j < i → nthL ls j ≠ u) → pickP u ls = ls.take i ++ ls.drop (i + 1)
  | [], i, hi, _, _ => by simp at hi
  | m :: r, 0, _, he, _ => by
    have he : m = u := by rw [nthL_def] at he; exact he
    rw [pickP, if_pos he]; simp
  | m :: r, i + 1, hi, he, h => by
    have h0 : ¬ m = u := by have := h 0 (by omega); rw [nthL_def] at this; exact this
    rw [nthL_def] at he
    rw [pickP, if_neg h0, pickP_at u r i (by simpa using hi) (by rw [nthL_def]; exact he) (fun j hj => by have := h (j + 1) (by omega); rw [nthL_def] at this ⊢; exact this)]
    simp
def CellV (a : Addr) (v : Value) (w : World) : Prop := w.cell? a = some v
def PickQ (q o base : Nat) (ls ls' : BL) (w : World) (e : Ending) (w' : World) : Prop :=
  e = .returned (.tuple #[]) ∧ ((ls' = ls ∧ w = w') ∨ ∃ w1 v', Below w.heap.size w w1 ∧ OwnL w1 w.heap.size v' ls' ∧ w' = w1.setCell ⟨q, o, none⟩ v')
set_option maxRecDepth 100000 in
set_option maxHeartbeats 1600000 in
theorem pick_any (q o base x : Nat) (v vx : Value) (ls : BL) (u : List UInt8) (cs : Array Value) (w : World) (hq : RowIs w q cs) (hc : w.cell? ⟨q, o, none⟩ = some v) (hown : OwnL w base v ls) (hx : w.cell? ⟨x, 3, none⟩ = some vx) (hxb : Bs w vx u) (hl : ls.length ≤ 1000) :
    Calls Try.prog 20 #[.pointer (some ⟨q, o, none⟩), isF x] w (PickQ q o base ls (pickP u ls) w) := by
  have hbl := hown.bsl (by omega)
  obtain ⟨A, c, rfl, hnc⟩ := hown.slice
  have CC := Lib.hid (index2_any _ vx ls x u w hbl hx hxb hl)
  clear hx hxb hown
  go_enter Try.func20, Try.ntmps20
  go_wp2_with fail
  refine CC.out.mono ?_
  rintro e w' ⟨⟨r, rfl, hv⟩, rfl⟩
  rcases hv with ⟨i, hi, rfl, he, hall⟩ | ⟨rfl, hall⟩
  · have hpk := pickP_at u ls i hi he hall
    have hb1 := hbl.take i (by omega)
    obtain ⟨k, hk⟩ : ∃ k, k = i + 1 := ⟨_, rfl⟩
    have hb2 := hbl.drop k (by omega)
    rw [← hk] at hpk
    obtain ⟨n, hn⟩ : ∃ n, n = ls.length := ⟨_, rfl⟩
    obtain ⟨l1, hl1⟩ : ∃ l, l = ls.take i := ⟨_, rfl⟩
    obtain ⟨l2, hl2⟩ : ∃ l, l = ls.drop k := ⟨_, rfl⟩
    have g1 : l1.length = i := by rw [hl1]; simp; omega
    have g2 : l2.length = n - k := by rw [hl2, List.length_drop, hn]
    obtain ⟨pk, hpke⟩ : ∃ p, p = pickP u ls := ⟨_, rfl⟩
    rw [← hn] at hc hi hnc hl hb2
    rw [← hl1] at hb1 hpk
    rw [← hl2] at hb2 hpk
    rw [← hpke] at hpk
    have HPE := Lib.hid hpke.symm
    have HPK := Lib.hid hpk; have G1 := Lib.hid g1; have G2 := Lib.hid g2
    have hfrom : ∀ w, (Instr.sliceAt 26 (.slice A n c) (some (.int .i64 (k : Int))) none none).run Try.prog w = .ok (.slice (subA A c k) (n - k) (c - k)) w := run_from Try.underlying26 (by kernel_rfl) A n c k (by omega)
    have i0 : (0 : Int) ≤ (i : Int) := by omega
    have i1 : (i : Int) ≤ c := by omega
    have j0 : (0 : Int) ≤ (k : Int) := by omega
    have j1 : (k : Int) ≤ n := by omega
    have hadd : (i : Int) + 1 = (k : Int) := by omega
    have hwr : IntKind.i64.wrap (k : Int) = (k : Int) := by rw [IntKind.wrap_i64]; omega
    have hd : Below w.heap.size w w.drew := (by repeat (first | with_reducible exact Below.refl _ _ | with_reducible assumption | refine Below.drew ?_ | refine below_drewN ?_ | refine Below.alloc ?_ (by first | omega | (simp; done) | (simp; omega)) _ | refine below_setRow ?_ (by omega) _ | refine Below.setCell ?_ (by first | omega | (simp; done) | (simp; omega)) _))
    have hc' : CellV ⟨q, o, none⟩ (.slice A n c) w.drew := hc
    have hq' := hq.step hd
    have hg := hq.lt
    clear CC hpk g1 g2 hl1 hl2 hpke hn hall he hbl hq hk
    go_wp2_with fail
    refine wp_region_lexT [] [4, 10] (CellV ⟨q, o, none⟩ (.slice A n c)) (by kernel_rfl) (by decide +kernel) hc' (fun hS => ?_)
    replace hb1 := hb1.step hd
    replace hb2 := hb2.step hd
    replace hg : q < w.drew.heap.size := hg
    clear hc hc'
    obtain ⟨W, hW⟩ : ∃ W, W = w.drew := ⟨_, rfl⟩
    rw [← hW] at hb1 hb2 hd hS hq' hg ⊢
    have HWz : Hid (W.heap.size = w.heap.size) := Lib.hid (by rw [hW]; rfl)
    clear hW
    (go_wp2_with (first | (refine wpLexT_pure rfl (fun _ _ => ?_); go_simp; refine ⟨_, fun w9 hw9 => (by have s1 : w9.cell? ⟨q, o, none⟩ = some (.slice A n c) := hw9; go_simp; rfl), ?_⟩) | (refine wpLexT_pure0 rfl (fun _ _ => ?_); go_simp; try go_bits) | (refine wpLexT_read rfl (fun _ _ => ?_); go_simp; try go_bits)))
    refine wpLexT_loud rfl (fun KL hKL => ?_)
    go_wp2_with fail
    have hq3 : Below W.heap.size W (W.alloc (.cells #[.slice A i c, .slice (subA A c k) (n - k) (c - k)] 26)) := (by repeat (first | with_reducible exact Below.refl _ _ | with_reducible assumption | refine Below.drew ?_ | refine below_drewN ?_ | refine Below.alloc ?_ (by first | omega | (simp; done) | (simp; omega)) _ | refine below_setRow ?_ (by omega) _ | refine Below.setCell ?_ (by first | omega | (simp; done) | (simp; omega)) _))
    have RN : RowIs (W.alloc (.cells #[.slice A i c, .slice (subA A c k) (n - k) (c - k)] 26)) W.heap.size #[.slice A i c, .slice (subA A c k) (n - k) (c - k)] := RowIs.new _ _ _
    have hLL : LL (W.alloc (.cells #[.slice A i c, .slice (subA A c k) (n - k) (c - k)] 26)) W.heap.size [l1, l2] := ⟨RN.lt, fun j hj => by
      have : j = 0 ∨ j = 1 := by simp at hj; omega
      obtain ⟨t, ht⟩ := RN.row.heap
      rw [RN.has] at ht
      rcases this with rfl | rfl
      · exact ⟨_, by rw [cell_of_row _ _ _ _ t (0, 0) ht]; rfl, by rw [nthP_def]; exact hb1.step hq3⟩
      · exact ⟨_, by rw [cell_of_row _ _ _ _ t (0, 0) ht]; rfl, by rw [nthP_def]; exact hb2.step hq3⟩⟩
    have hcell3 : CellV ⟨q, o, none⟩ (.slice A n c) (W.alloc (.cells #[.slice A i c, .slice (subA A c k) (n - k) (c - k)] 26)) := (hq3.cell (p := ⟨q, o, none⟩) hg).trans hS
    have CC := concatL_any W.heap.size 2 [l1, l2] _ hLL (by simp) (by
      have e : ([l1, l2] : List BL).flatten = l1 ++ l2 := by simp
      rw [e, List.length_append, G1.out, G2.out]; omega)
    rw [show ([l1, l2] : List BL).length = 2 from rfl, show ([l1, l2] : List BL).flatten = pk by rw [HPK.out]; simp] at CC
    have CC := Lib.hid CC
    refine hKL _ _ hcell3 (fun _ => ?_)
    replace hd := hd.trans (hq3.mono hd.size)
    replace hq' := hq'.step hq3
    replace hg : q < (W.alloc (.cells #[.slice A i c, .slice (subA A c k) (n - k) (c - k)] 26)).heap.size := Nat.lt_of_lt_of_le hg hq3.size
    have hc3 : (W.alloc (.cells #[.slice A i c, .slice (subA A c k) (n - k) (c - k)] 26)).cell? ⟨q, o, none⟩ = some (.slice A n c) := hcell3
    clear hLL RN hb1 hb2 hS hcell3
    (go_wp2_with (first | (refine wpLexT_pure rfl (fun _ _ => ?_); go_simp; refine ⟨_, fun w9 hw9 => (by have s1 : w9.cell? ⟨q, o, none⟩ = some (.slice A n c) := hw9; go_simp; rfl), ?_⟩) | (refine wpLexT_pure0 rfl (fun _ _ => ?_); go_simp; try go_bits) | (refine wpLexT_read rfl (fun _ _ => ?_); go_simp; try go_bits)))
    refine wpLexT_loud rfl (fun KL hKL => ?_)
    go_wp2_with fail
    refine CC.out.mono ?_
    rintro e w5 ⟨v5, rfl, own5, hb5⟩
    go_wp2_with fail
    have hq6 := hq'.step hb5
    have hc6 : CellV ⟨q, o, none⟩ (.slice A n c) w5 := (hb5.cell (p := ⟨q, o, none⟩) hg).trans hc3
    refine hKL _ _ hc6 (fun _ => ?_)
    (go_wp2_with (first | (refine wpLexT_pure rfl (fun _ _ => ?_); go_simp; refine ⟨_, fun w9 hw9 => (by have s1 : w9.cell? ⟨q, o, none⟩ = some (.slice A n c) := hw9; go_simp; rfl), ?_⟩) | (refine wpLexT_pure0 rfl (fun _ _ => ?_); go_simp; try go_bits) | (refine wpLexT_read rfl (fun _ _ => ?_); go_simp; try go_bits)))
    refine wpLexT_last (fun KL hKL => ?_)
    have fz := RowIs.fz hq6 o
    have hc7 : w5.cell? ⟨q, o, none⟩ = some (.slice A n c) := hc6
    obtain ⟨A5, c5, rfl, -⟩ := own5.slice
    have hb6 := hd.trans (hb5.mono hd.size)
    have hzz := hd.size
    clear hc3
    go_wp2_with fail
    go_end0
    exact ⟨rfl, .inr ⟨w5, _, hb6, by rw [HPE.out]; exact own5.mono hzz, rfl⟩⟩
  · have hpk := pickP_none u ls hall
    have HPK := Lib.hid hpk
    clear hpk hall CC
    go_wp2_with fail
    go_end0
    exact ⟨rfl, .inl ⟨HPK.out, rfl⟩⟩
def PickRes (q base : Nat) (s : BL × BL) (w : World) (e : Ending) (w' : World) : Prop := e = .returned (.tuple #[]) ∧ Qs w' q base s ∧ UpdQ q base w w' ∧ w.heap.size ≤ w'.heap.size ∧ ∀ k, k < w.heap.size → k ≠ q → w'.heap[k]? = w.heap[k]?
theorem below_grown {w w1 : World} {row : Option Nat} (h : Below w.heap.size w w1) : w.grownBy w1 row := ⟨h.os, h.tape, h.output, h.size, fun k hk _ => h.block k hk⟩
theorem pick0_any (q base x : Nat) (vx : Value) (u : List UInt8) (s : BL × BL) (w : World) (hs : Qs w q base s) (hx : w.cell? ⟨x, 3, none⟩ = some vx) (hxb : Bs w vx u) (hl : s.1.length ≤ 1000) :
    Calls Try.prog 20 #[.pointer (some ⟨q, 0, none⟩), isF x] w (PickRes q base (pickP u s.1, s.2) w) := by
  obtain ⟨va, vb, ta, tb, R, ha, hb, hq, hne⟩ := id hs
  refine (pick_any q 0 base x va vx s.1 u _ w R (QRow.at R 0) ha hx hxb hl).mono ?_
  rintro e w' ⟨rfl, h | ⟨w1, v', hb1, own, rfl⟩⟩
  · obtain ⟨h1, rfl⟩ := h
    exact ⟨rfl, by rw [h1]; exact hs, UpdQ.refl _ _ _, Nat.le_refl _, fun _ _ _ => rfl⟩
  · have R1 : RowIs w1 q (qC va ta vb tb) := R.step hb1
    have R' : RowIs (w1.setCell ⟨q, 0, none⟩ v') q (qC v' ta vb tb) := by
      have := R1.put 0 v'
      rw [qC_def] at this ⊢
      simpa using this
    have hlt := R.lt
    obtain ⟨g1, g2⟩ := Qs.side0 R ha hb hq hne (below_grown hb1) (own.mono (by omega)) (fun k hk => .inr (own.lt hk).1) ((Upd.refl q w1).put 0 v') R'
    have U : Upd q w1 (w1.setCell ⟨q, 0, none⟩ v') := (Upd.refl q w1).put 0 v'
    exact ⟨rfl, g1, g2, Nat.le_trans hb1.size U.size, fun k hk hne => (U.block k (Nat.lt_of_lt_of_le hk hb1.size) hne).trans (hb1.block k hk)⟩
theorem pick1_any (q base x : Nat) (vx : Value) (u : List UInt8) (s : BL × BL) (w : World) (hs : Qs w q base s) (hx : w.cell? ⟨x, 3, none⟩ = some vx) (hxb : Bs w vx u) (hl : s.2.length ≤ 1000) :
    Calls Try.prog 20 #[.pointer (some ⟨q, 2, none⟩), isF x] w (PickRes q base (s.1, pickP u s.2) w) := by
  obtain ⟨va, vb, ta, tb, R, ha, hb, hq, hne⟩ := id hs
  refine (pick_any q 2 base x vb vx s.2 u _ w R (QRow.at R 2) hb hx hxb hl).mono ?_
  rintro e w' ⟨rfl, h | ⟨w1, v', hb1, own, rfl⟩⟩
  · obtain ⟨h1, rfl⟩ := h
    exact ⟨rfl, by rw [h1]; exact hs, UpdQ.refl _ _ _, Nat.le_refl _, fun _ _ _ => rfl⟩
  · have R1 : RowIs w1 q (qC va ta vb tb) := R.step hb1
    have R' : RowIs (w1.setCell ⟨q, 2, none⟩ v') q (qC va ta v' tb) := by
      have := R1.put 2 v'
      rw [qC_def] at this ⊢
      simpa using this
    have hlt := R.lt
    obtain ⟨g1, g2⟩ := Qs.side1 R ha hb hq hne (below_grown hb1) (own.mono (by omega)) (fun k hk => .inr (own.lt hk).1) ((Upd.refl q w1).put 2 v') R'
    have U : Upd q w1 (w1.setCell ⟨q, 2, none⟩ v') := (Upd.refl q w1).put 2 v'
    exact ⟨rfl, g1, g2, Nat.le_trans hb1.size U.size, fun k hk hne => (U.block k (Nat.lt_of_lt_of_le hk hb1.size) hne).trans (hb1.block k hk)⟩
end Go.Proofs.Ytlfplikkifjnfaa
