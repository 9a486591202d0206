/- Layer 14: the chapter's examples. Printed by gen_aw14.py. -/
import Derived.Test.YtopmdbmnlflpgaaDoorPastW
import Derived.Test.YtopmdbmnlflpgaaDoorAw2
namespace Go.Proofs.YtopmdbmnlflpgaaDoor
open Go.RowKit
attribute [local go_sem ↓] xtrBuild xtrLoad xtrStore
attribute [local go_sem] trZ trStore trC_size trC_one trEq pastBuild
theorem MetB.new14 {w : World} {g : Nat} (h : Met w g 0 false (.slice none 0 0)) : MetB w g 0 := ⟨0, by omega, by omega, h⟩
theorem PastAt.stepB {w w' : World} {p base : Nat} {ts : List Tr} (h : PastAt w p base ts) (hb : Below w.heap.size w w') : PastAt w' p base ts := h.step hb
theorem newTr (w : World) (H : List UInt8) (hH : H.length = 32) (n : UInt32) : (storeAgg 64 (.pointer (some ⟨w.heap.size, 0, none⟩)) (.agg (trC H n))).run Tryd.prog (w.alloc (.cells (trC (zeros 32) 0) 64)) = .ok .skip (w.alloc (.cells (trC H n) 64)) := by
  have R : RowIs (w.alloc (.cells (trC (zeros 32) 0) 64)) w.heap.size (trC (zeros 32) 0) := RowIs.new _ _ _
  rw [trStore _ w.heap.size (trC H n) (by rw [R.has, trC_size _ (zeros_length 32)]) (trC_size H hH n) (trC_one H n)]
  rw [setRow_alloc, if_neg (Nat.lt_irrefl _), if_pos rfl, objSet_cells]
attribute [local go_sem] newTr
theorem kload14 {w : World} {g : Nat} {T : List UInt8} (hr : RowIs w g (u8s T)) (hT : T.length = 32) : (loadAgg 33 (.pointer (some ⟨g, 0, none⟩))).run Tryd.prog w = .ok (.value (.agg (u8s T))) w := by
  have := run_loadAgg (P := Tryd.prog) 32 33 (by omega) (by kernel_rfl) (by kernel_rfl) w g (by rw [hr.has, u8s_size]; exact hT)
  rw [hr.has] at this; exact this
theorem thead_row {w : World} {g : Nat} {h : List UInt8} {n : UInt32} (hr : RowIs w g (trC h n)) (hh : h.length = 32) : (loadAgg 33 (.pointer (some ⟨g, 0, none⟩))).run Tryd.prog w = .ok (.value (.agg (u8s h))) w := by
  have hr' : RowIs w g (trL h n).toArray := by rw [← trC_def]; exact hr
  refine thead_at (n := n) (fun j v hv => ?_) hh
  exact hr'.range 0 (trL h n).length j v (by rw [List.drop_zero, List.take_length]; exact hv)
set_option maxRecDepth 100000 in
set_option maxHeartbeats 6400000 in
theorem awake14_any (w : World) (he : ShaEnv w) : Calls Tryd.prog 41 #[] w (TrueRes' w) := by
  obtain ⟨S, hS⟩ : ∃ S, S = startB [1] [] := ⟨_, rfl⟩
  obtain ⟨X, hX⟩ : ∃ X, X = nextB S 0 [97] := ⟨_, rfl⟩
  obtain ⟨Y, hY⟩ : ∃ Y, Y = nextB X 1 [98] := ⟨_, rfl⟩
  have hSl : S.length = 32 := by rw [hS, startB_length]
  have hXl : X.length = 32 := by rw [hX, nextB_length]
  have hYl : Y.length = 32 := by rw [hY, nextB_length]
  have e1 : (0 : UInt32) + 1 = 1 := rfl
  have e2 : (1 : UInt32) + 1 = 2 := rfl
  have c1 := fun g vo vt (w : World) h1 h2 h3 h4 => tstart_any g 0 vo vt [1] [] w h1 h2 h3 h4 (by simp) (by simp) (by omega)
  have c2 := fun g vb (w : World) h1 h2 h3 => tnext_any g (0 + 1) S hSl 0 vb [97] w h1 h2 h3 (by simp) (by omega)
  have c3 := fun g vb (w : World) h1 h2 h3 => tnext_any g (0 + 1 + 1) X hXl 1 vb [98] w h1 h2 h3 (by simp) (by omega)
  have hall : trK S 0 [[97], [98]] 2 = (Y, 2) := by simp only [trK, nthL_def]; rw [hY, hX]; rfl
  have c4 := fun g vl (w : World) h1 h2 h3 => tall_any g (0 + 1 + 1 + 1) S hSl 0 vl [[97], [98]] w h1 h2 h3 (by simp) (fun k hk => by
    have hk' : k < 2 := hk
    have : k = 0 ∨ k = 1 := by omega
    rcases this with rfl | rfl <;> simp [nthL_def]) (by omega)
  unfold TrRes at c1 c2 c3 c4
  rw [← hS] at c1
  rw [← hX, e1] at c2
  rw [← hY, e2] at c3
  simp only [show ([[97], [98]] : List (List UInt8)).length = 2 from rfl, hall] at c4
  have C1 := Lib.hid c1; have C2 := Lib.hid c2; have C3 := Lib.hid c3; have C4 := Lib.hid c4
  have HN1 := Lib.hid (show (n32 1 : Int) = 1 by rw [n32_def]; rfl)
  have HN2 := Lib.hid (show (n32 2 : Int) = 2 by rw [n32_def]; rfl)
  have hr1 := he.rounds.lt
  have hr2 := he.start.lt
  clear c1 c2 c3 c4 hall hS hX hY e1 e2
  go_enter Tryd.func41, Tryd.ntmps41
  go_wp2_with fail
  refine (new_any false _).mono ?_
  rintro e w1 ⟨g, rfl, hm0, hg, HB⟩
  have hm := MetB.new14 hm0
  replace he := he.step HB
  clear hm0
  have hq : Below w1.heap.size w1 (w1.alloc (.cells #[.int .u8 1] 5)) := (by repeat (first | with_reducible exact Below.refl _ _ | with_reducible assumption | refine Below.drew ?_ | refine below_drewN ?_ | refine Below.alloc ?_ (by first | omega | (simp; done) | (simp; omega)) _ | refine below_setRow ?_ (by omega) _ | refine Below.setCell ?_ (by first | omega | (simp; done) | (simp; omega)) _))
  have b1 := Bs.one (w := w1.alloc (.cells #[.int .u8 1] 5)) (g := w1.heap.size) (i := 1) 1 (by go_simp) (by rw [n8_def]; rfl) (by simp)
  replace hm := hm.step hq
  replace he := he.step hq
  replace HB := HB.trans (hq.mono HB.size)
  have hgl := hm.lt
  clear hq
  go_wp2_with fail
  refine (C1.out g _ _ _ hm he b1 (Bs.nil _)).mono ?_
  rintro e w2 ⟨rfl, hm', hu⟩
  replace he := hm.env he hu
  replace HB := hu.below HB (by omega) HB.size
  have hgx := hm'.lt
  have hm := hm'
  have hq : Below w2.heap.size w2 (w2.alloc (.cells (trC S 0) 64)) := (by repeat (first | with_reducible exact Below.refl _ _ | with_reducible assumption | refine Below.drew ?_ | refine below_drewN ?_ | refine Below.alloc ?_ (by first | omega | (simp; done) | (simp; omega)) _ | refine below_setRow ?_ (by omega) _ | refine Below.setCell ?_ (by first | omega | (simp; done) | (simp; omega)) _))
  have RS : RowIs (w2.alloc (.cells (trC S 0) 64)) w2.heap.size (trC S 0) := RowIs.new _ _ _
  have hsz := hu.size
  try simp at hsz
  replace hm := hm.step hq
  replace he := he.step hq
  replace HB := HB.trans (hq.mono HB.size)
  clear hq hu hm'
  have hgs : g ≠ w2.heap.size := by omega
  have hq : Below (w2.alloc (.cells (trC S 0) 64)).heap.size (w2.alloc (.cells (trC S 0) 64)) ((w2.alloc (.cells (trC S 0) 64)).alloc (.cells #[.int .u8 97] 5)) := (by repeat (first | with_reducible exact Below.refl _ _ | with_reducible assumption | refine Below.drew ?_ | refine below_drewN ?_ | refine Below.alloc ?_ (by first | omega | (simp; done) | (simp; omega)) _ | refine below_setRow ?_ (by omega) _ | refine Below.setCell ?_ (by first | omega | (simp; done) | (simp; omega)) _))
  have b2 := Bs.one (w := (w2.alloc (.cells (trC S 0) 64)).alloc (.cells #[.int .u8 97] 5)) (g := w2.heap.size + 1) (i := 97) 97 (by go_simp) (by rw [n8_def]; rfl) (by simp)
  have L1 := trload RS hSl
  replace RS := RS.step hq
  replace hm := hm.step hq
  replace he := he.step hq
  replace HB := HB.trans (hq.mono HB.size)
  clear hq b1
  have L1' := trload RS hSl
  go_wp2_with fail
  refine (C2.out g _ _ hm he b2).mono ?_
  rintro e w3 ⟨rfl, hm', hu⟩
  replace he := hm.env he hu
  replace HB := hu.below HB (by omega) HB.size
  replace RS := RS.upd hu (by omega)
  have hgx := hm'.lt
  have hm := hm'
  have hq : Below w3.heap.size w3 (w3.alloc (.cells (trC X 1) 64)) := (by repeat (first | with_reducible exact Below.refl _ _ | with_reducible assumption | refine Below.drew ?_ | refine below_drewN ?_ | refine Below.alloc ?_ (by first | omega | (simp; done) | (simp; omega)) _ | refine below_setRow ?_ (by omega) _ | refine Below.setCell ?_ (by first | omega | (simp; done) | (simp; omega)) _))
  have RX : RowIs (w3.alloc (.cells (trC X 1) 64)) w3.heap.size (trC X 1) := RowIs.new _ _ _
  have hsz := hu.size
  try simp at hsz
  replace hm := hm.step hq
  replace he := he.step hq
  replace HB := HB.trans (hq.mono HB.size)
  replace RS := RS.step hq
  clear hq hu hm'
  have hq : Below (w3.alloc (.cells (trC X 1) 64)).heap.size (w3.alloc (.cells (trC X 1) 64)) ((w3.alloc (.cells (trC X 1) 64)).alloc (.cells #[.int .u8 98] 5)) := (by repeat (first | with_reducible exact Below.refl _ _ | with_reducible assumption | refine Below.drew ?_ | refine below_drewN ?_ | refine Below.alloc ?_ (by first | omega | (simp; done) | (simp; omega)) _ | refine below_setRow ?_ (by omega) _ | refine Below.setCell ?_ (by first | omega | (simp; done) | (simp; omega)) _))
  have b3 := Bs.one (w := (w3.alloc (.cells (trC X 1) 64)).alloc (.cells #[.int .u8 98] 5)) (g := w3.heap.size + 1) (i := 98) 98 (by go_simp) (by rw [n8_def]; rfl) (by simp)
  have L2 := trload RX hXl
  replace RX := RX.step hq
  replace RS := RS.step hq
  replace hm := hm.step hq
  replace he := he.step hq
  replace HB := HB.trans (hq.mono HB.size)
  clear hq b2 L1 L1'
  go_wp2_with fail
  refine (C3.out g _ _ hm he b3).mono ?_
  rintro e w4 ⟨rfl, hm', hu⟩
  replace he := hm.env he hu
  replace HB := hu.below HB (by omega) HB.size
  replace RS := RS.upd hu (by omega)
  replace RX := RX.upd hu (by omega)
  have hgx := hm'.lt
  have hm := hm'
  have hq : Below w4.heap.size w4 (w4.alloc (.cells (trC Y 2) 64)) := (by repeat (first | with_reducible exact Below.refl _ _ | with_reducible assumption | refine Below.drew ?_ | refine below_drewN ?_ | refine Below.alloc ?_ (by first | omega | (simp; done) | (simp; omega)) _ | refine below_setRow ?_ (by omega) _ | refine Below.setCell ?_ (by first | omega | (simp; done) | (simp; omega)) _))
  have RY : RowIs (w4.alloc (.cells (trC Y 2) 64)) w4.heap.size (trC Y 2) := RowIs.new _ _ _
  have hsz := hu.size
  try simp at hsz
  replace hm := hm.step hq
  replace he := he.step hq
  replace HB := HB.trans (hq.mono HB.size)
  replace RS := RS.step hq
  replace RX := RX.step hq
  clear hq hu hm'
  have L3 := trload RS hSl
  have b4 := Bs.one (w := ((w4.alloc (.cells (trC Y 2) 64)).alloc (.cells #[.int .u8 97] 5))) (g := w4.heap.size + 1) (i := 97) 97 (by go_simp) (by rw [n8_def]; rfl) (by simp)
  have hq2 : Below ((w4.alloc (.cells (trC Y 2) 64)).alloc (.cells #[.int .u8 97] 5)).heap.size ((w4.alloc (.cells (trC Y 2) 64)).alloc (.cells #[.int .u8 97] 5)) (((w4.alloc (.cells (trC Y 2) 64)).alloc (.cells #[.int .u8 97] 5)).alloc (.cells #[.int .u8 98] 5)) := (by repeat (first | with_reducible exact Below.refl _ _ | with_reducible assumption | refine Below.drew ?_ | refine below_drewN ?_ | refine Below.alloc ?_ (by first | omega | (simp; done) | (simp; omega)) _ | refine below_setRow ?_ (by omega) _ | refine Below.setCell ?_ (by first | omega | (simp; done) | (simp; omega)) _))
  replace b4 := b4.step hq2
  have b5 := Bs.one (w := (((w4.alloc (.cells (trC Y 2) 64)).alloc (.cells #[.int .u8 97] 5)).alloc (.cells #[.int .u8 98] 5))) (g := w4.heap.size + 1 + 1) (i := 98) 98 (by go_simp) (by rw [n8_def]; rfl) (by simp)
  have LL := BsL.lit2 (gg := w4.heap.size + 1 + 1 + 1) 27 (by simp) b4 b5
  have hq : Below (w4.alloc (.cells (trC Y 2) 64)).heap.size (w4.alloc (.cells (trC Y 2) 64)) ((((w4.alloc (.cells (trC Y 2) 64)).alloc (.cells #[.int .u8 97] 5)).alloc (.cells #[.int .u8 98] 5)).alloc (.cells #[.slice (some ⟨w4.heap.size + 1, 0, none⟩) 1 1, .slice (some ⟨w4.heap.size + 1 + 1, 0, none⟩) 1 1] 27)) := (by repeat (first | with_reducible exact Below.refl _ _ | with_reducible assumption | refine Below.drew ?_ | refine below_drewN ?_ | refine Below.alloc ?_ (by first | omega | (simp; done) | (simp; omega)) _ | refine below_setRow ?_ (by omega) _ | refine Below.setCell ?_ (by first | omega | (simp; done) | (simp; omega)) _))
  replace RX := RX.step hq
  replace RY := RY.step hq
  replace RS := RS.step hq
  replace hm := hm.step hq
  replace he := he.step hq
  replace HB := HB.trans (hq.mono HB.size)
  clear hq hq2 b3 b4 b5 L2
  go_wp2_with fail
  refine (C4.out g _ _ hm he (BsLx.of LL (by omega))).mono ?_
  rintro e w5 ⟨rfl, hm', hu⟩
  replace he := hm.env he hu
  replace HB := hu.below HB (by omega) HB.size
  replace RS := RS.upd hu (by omega)
  replace RX := RX.upd hu (by omega)
  replace RY := RY.upd hu (by omega)
  have hgx := hm'.lt
  have hm := hm'
  have hq : Below w5.heap.size w5 (w5.alloc (.cells (trC Y 2) 64)) := (by repeat (first | with_reducible exact Below.refl _ _ | with_reducible assumption | refine Below.drew ?_ | refine below_drewN ?_ | refine Below.alloc ?_ (by first | omega | (simp; done) | (simp; omega)) _ | refine below_setRow ?_ (by omega) _ | refine Below.setCell ?_ (by first | omega | (simp; done) | (simp; omega)) _))
  have RC : RowIs (w5.alloc (.cells (trC Y 2) 64)) w5.heap.size (trC Y 2) := RowIs.new _ _ _
  have hsz := hu.size
  try simp at hsz
  replace hm := hm.step hq
  replace he := he.step hq
  replace HB := HB.trans (hq.mono HB.size)
  replace RS := RS.step hq
  replace RX := RX.step hq
  replace RY := RY.step hq
  clear hq hu hm'
  clear he hm LL L3 C1 C2 C3 C4
  have hq : Below (w5.alloc (.cells (trC Y 2) 64)).heap.size (w5.alloc (.cells (trC Y 2) 64)) ((w5.alloc (.cells (trC Y 2) 64)).alloc (.cells #[.slice none 0 0] 75)) := (by repeat (first | with_reducible exact Below.refl _ _ | with_reducible assumption | refine Below.drew ?_ | refine below_drewN ?_ | refine Below.alloc ?_ (by first | omega | (simp; done) | (simp; omega)) _ | refine below_setRow ?_ (by omega) _ | refine Below.setCell ?_ (by first | omega | (simp; done) | (simp; omega)) _))
  have RP : PastAt ((w5.alloc (.cells (trC Y 2) 64)).alloc (.cells #[.slice none 0 0] 75)) (w5.heap.size + 1) (w5.heap.size + 2) [] := ⟨_, RowIs.new' (by simp), OwnT.nil _ _⟩
  replace RS := RS.step hq; replace RX := RX.step hq; replace RY := RY.step hq; replace RC := RC.step hq
  replace HB := HB.trans (hq.mono HB.size)
  have hsz6 : w5.heap.size + 2 ≤ ((w5.alloc (.cells (trC Y 2) 64)).alloc (.cells #[.slice none 0 0] 75)).heap.size := by simp
  have hl5 := RC.lt
  have L1 := trload RS hSl
  have hw5 : w.heap.size ≤ w5.heap.size := by have := HB.size; omega
  clear hq
  go_wp2_with fail
  refine (add_first (w5.heap.size + 1) (w5.heap.size + 2) (by omega) S hSl 0 _ RP hsz6).mono ?_
  rintro e w6 ⟨rfl, RP, hu⟩
  replace HB := hu.below HB (by omega) (by omega)
  replace RS := RS.updB hu (by omega) (by omega)
  replace RX := RX.updB hu (by omega) (by omega)
  replace RY := RY.updB hu (by omega) (by omega)
  replace RC := RC.updB hu (by omega) (by omega)
  have hsz7 : w5.heap.size + 2 ≤ w6.heap.size := Nat.le_trans hsz6 hu.size
  have L2 := trload RX hXl
  clear hu L1 hsz6
  go_wp2_with fail
  refine (add_ok (w5.heap.size + 1) (w5.heap.size + 2) (by omega) [(S, 0)] X hXl 1 _ RP (by intro t ht; simp at ht; rw [ht]; exact hSl) hsz7 (by simp) (by simp) (by rw [nthT_def]; rfl)).mono ?_
  rintro e w7 ⟨rfl, RP, hu⟩
  replace HB := hu.below HB (by omega) (by omega)
  replace RS := RS.updB hu (by omega) (by omega)
  replace RX := RX.updB hu (by omega) (by omega)
  replace RY := RY.updB hu (by omega) (by omega)
  replace RC := RC.updB hu (by omega) (by omega)
  have hsz8 : w5.heap.size + 2 ≤ w7.heap.size := Nat.le_trans hsz7 hu.size
  have L3 := trload RY hYl
  clear hu L2 hsz7
  go_wp2_with fail
  refine (add_ok (w5.heap.size + 1) (w5.heap.size + 2) (by omega) [(S, 0), (X, 1)] Y hYl 2 _ RP (by intro t ht; simp at ht; rcases ht with rfl | rfl <;> assumption) hsz8 (by simp) (by simp) (by rw [nthT_def]; rfl)).mono ?_
  rintro e w8 ⟨rfl, RP, hu⟩
  replace HB := hu.below HB (by omega) (by omega)
  replace RS := RS.updB hu (by omega) (by omega)
  replace RX := RX.updB hu (by omega) (by omega)
  replace RY := RY.updB hu (by omega) (by omega)
  replace RC := RC.updB hu (by omega) (by omega)
  have hsz9 : w5.heap.size + 2 ≤ w8.heap.size := Nat.le_trans hsz8 hu.size
  clear hu L3 hsz8
  have hok3 : OkT [(S, 0), (X, 1), (Y, 2)] := by intro t ht; simp at ht; rcases ht with rfl | rfl | rfl <;> assumption
  have f1 := find_any (w5.heap.size + 1) (w5.heap.size + 2) [(S, 0), (X, 1), (Y, 2)] hok3 1 w8 RP (by simp)
  rw [HN1.out] at f1
  go_wp2_with fail
  refine f1.mono ?_
  rintro e w9 ⟨hcase, hb9⟩
  obtain rfl : e = .returned (.tuple #[.agg (u8s X), .int .i64 0]) := by
    rcases hcase with ⟨i, hi, he, hin, hall⟩ | ⟨_, hall⟩
    · have hi' : i < 3 := hi
      have : i = 0 ∨ i = 1 ∨ i = 2 := by omega
      rcases this with rfl | rfl | rfl
      · rw [nthT_def] at hin; exact absurd (show (0 : UInt32) = 1 from hin) (by decide)
      · rw [he, nthT_def]; rfl
      · rw [nthT_def] at hin; exact absurd (show (2 : UInt32) = 1 from hin) (by decide)
    · have := hall 1 (by simp)
      rw [nthT_def] at this
      exact absurd rfl this
  clear hcase f1
  have hq : Below w9.heap.size w9 (w9.alloc (.cells (u8s X) 33)) := (by repeat (first | with_reducible exact Below.refl _ _ | with_reducible assumption | refine Below.drew ?_ | refine below_drewN ?_ | refine Below.alloc ?_ (by first | omega | (simp; done) | (simp; omega)) _ | refine below_setRow ?_ (by omega) _ | refine Below.setCell ?_ (by first | omega | (simp; done) | (simp; omega)) _))
  have RK : RowIs (w9.alloc (.cells (u8s X) 33)) w9.heap.size (u8s X) := RowIs.new _ _ _
  have hbq := hb9.trans (hq.mono hb9.size)
  replace RS := RS.step hbq; replace RX := RX.step hbq; replace RY := RY.step hbq; replace RC := RC.step hbq; replace RP := RP.step hbq
  replace HB := HB.trans (hbq.mono HB.size)
  have hsz10 : w5.heap.size + 2 ≤ w9.heap.size := Nat.le_trans hsz9 hb9.size
  have fo := forget_any (w5.heap.size + 1) (w5.heap.size + 2) (by omega) [(S, 0), (X, 1), (Y, 2)] hok3 2 _ RP (by simp; omega) (by simp)
  rw [HN2.out, show forgT 2 [(S, 0), (X, 1), (Y, 2)] = [(Y, 2)] from rfl] at fo
  clear hb9 hq hbq hsz9
  go_wp2_with fail
  refine fo.mono ?_
  rintro e w10 ⟨rfl, RP, hok1, hu⟩
  replace HB := hu.below HB (by omega) HB.size
  replace RS := RS.upd hu (by omega)
  replace RX := RX.upd hu (by omega)
  replace RY := RY.upd hu (by omega)
  replace RC := RC.upd hu (by omega)
  replace RK := RK.upd hu (by omega)
  have f2 := find_any (w5.heap.size + 1) (w5.heap.size + 2) [(Y, 2)] hok1 1 w10 RP (by simp)
  rw [HN1.out] at f2
  clear hu fo
  go_wp2_with fail
  refine f2.mono ?_
  rintro e w11 ⟨hcase, hb11⟩
  obtain rfl : e = .returned (.tuple #[.agg (u8s (zeros 32)), .int .i64 62]) := by
    rcases hcase with ⟨i, hi, he, hin, hall⟩ | ⟨he, hall⟩
    · have hi' : i < 1 := hi
      obtain rfl : i = 0 := by omega
      rw [nthT_def] at hin; exact absurd (show (2 : UInt32) = 1 from hin) (by decide)
    · exact he
  clear hcase f2
  have hq : Below w11.heap.size w11 (w11.alloc (.cells (u8s (zeros 32)) 33)) := (by repeat (first | with_reducible exact Below.refl _ _ | with_reducible assumption | refine Below.drew ?_ | refine below_drewN ?_ | refine Below.alloc ?_ (by first | omega | (simp; done) | (simp; omega)) _ | refine below_setRow ?_ (by omega) _ | refine Below.setCell ?_ (by first | omega | (simp; done) | (simp; omega)) _))
  have hbq := hb11.trans (hq.mono hb11.size)
  replace RS := RS.step hbq; replace RX := RX.step hbq; replace RY := RY.step hbq; replace RC := RC.step hbq; replace RP := RP.step hbq; replace RK := RK.step hbq
  replace HB := HB.trans (hbq.mono HB.size)
  have ff := first_any' (w5.heap.size + 1) (w5.heap.size + 2) [(Y, 2)] hok1 _ RP (by simp)
  rw [show (nthT [(Y, 2)] 0).2 = 2 by rw [nthT_def]; rfl, HN2.out] at ff
  clear hb11 hq hbq
  go_wp2_with fail
  refine ff.mono ?_
  rintro e w12 ⟨rfl, rfl⟩
  have L1 := trload RY hYl
  have L2 := trload RC hYl
  have L3 := kload14 RK hXl
  have L4 := TrRow.num (w := w11.alloc (.cells (u8s (zeros 32)) 33)) RY hYl
  rw [HN2.out] at L4
  have L5 := thead_row RX hXl
  have L6 := trEq Y hYl 2
  clear ff
  go_wp2_with fail
  go_ret
  exact ⟨by simp, HB⟩
end Go.Proofs.YtopmdbmnlflpgaaDoor
