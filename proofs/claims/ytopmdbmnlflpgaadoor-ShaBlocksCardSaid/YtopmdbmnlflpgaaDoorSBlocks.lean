/- ShaBlocks: the walk. -/
import Derived.Test.YtopmdbmnlflpgaaDoorAw2
import Derived.Test.YtopmdbmnlflpgaaDoorRefSha
import Derived.Test.YtopmdbmnlflpgaaDoorRefPad
namespace Go.Proofs.YtopmdbmnlflpgaaDoor
open Go.RowKit
def padI (n : Int) : List UInt8 := if n < 0 then [] else padB n.toNat
theorem pad_int (n : Int) (hn : n ≤ 35184372088000) (w : World) : Calls Tryd.prog 21 #[.int .i64 n] w (BsRes w (padI n)) := by
  by_cases h : n < 0
  · have e : padI n = [] := by unfold padI; rw [if_pos h]
    rw [e]
    go_enter Tryd.func21, Tryd.ntmps21
    go_wp2_with fail
    go_ret
    exact ⟨_, rfl, Bs.nil _, Below.refl _ _⟩
  · obtain ⟨k, rfl⟩ : ∃ k : Nat, n = k := ⟨n.toNat, by omega⟩
    have e : padI k = padB k := by unfold padI; rw [if_neg h]; rfl
    rw [e]; exact pad_any k (by omega) w
theorem refPad_int (n : Int) (hn : n ≤ 35184372088000) (w : World) : Calls Tryd.prog 24 #[.int .i64 n] w (BsRes w (padI n)) := by
  by_cases h : n < 0
  · have e : padI n = [] := by unfold padI; rw [if_pos h]
    rw [e]
    go_enter Tryd.func24, Tryd.ntmps24
    go_wp2_with fail
    go_ret
    exact ⟨_, rfl, Bs.nil _, Below.refl _ _⟩
  · obtain ⟨k, rfl⟩ : ∃ k : Nat, n = k := ⟨n.toNat, by omega⟩
    have e : padI k = padB k := by unfold padI; rw [if_neg h]; rfl
    rw [e]; exact refPad_any k (by omega) w
def Three (g1 g2 g3 : Nat) (c1 c2 c3 : Array Value) (w : World) : Prop := RowIs w g1 c1 ∧ RowIs w g2 c2 ∧ RowIs w g3 c3
theorem Three.step {g1 g2 g3 : Nat} {c1 c2 c3 : Array Value} {w w' : World} (h : Three g1 g2 g3 c1 c2 c3 w) (hb : Below w.heap.size w w') : Three g1 g2 g3 c1 c2 c3 w' := ⟨h.1.step hb, h.2.1.step hb, h.2.2.step hb⟩
set_option maxRecDepth 100000 in
set_option maxHeartbeats 1600000 in
theorem walk_ShaBlocks (st : List UInt32) (bl : List UInt8) (n : Int) (w : World) (he : ShaEnv w) (hst : st.length = 8) (hbl : bl.length = 64) (_ : -9223372036854775808 ≤ n) (_ : n ≤ 9223372036854775807) :
    Calls Tryd.prog 3 #[.agg (u32s st), .agg (u8s bl), .int .i64 n] w (TrueRes' w) := by
  have HB : Below w.heap.size w ((w.alloc (.cells (u32s st) 23)).alloc (.cells (u8s bl) 24)) := (by repeat (first | with_reducible exact Below.refl _ _ | with_reducible assumption | refine Below.drew ?_ | refine below_drewN ?_ | refine Below.alloc ?_ (by first | omega | (simp; done) | (simp; omega)) _ | refine below_setRow ?_ (by omega) _ | refine Below.setCell ?_ (by first | omega | (simp; done) | (simp; omega)) _))
  replace he := he.step HB
  by_cases h2 : 100000 < n
  · go_enter Tryd.func3, Tryd.ntmps3
    go_wp2_with (go_at_call 19; refine (awake_any _ he).mono ?_; rintro e w1 ⟨rfl, hb1⟩)
    go_ret
    exact ⟨rfl, HB.trans (hb1.mono HB.size)⟩
  obtain ⟨s, hs⟩ : ∃ s, s = shaBlock st bl := ⟨_, rfl⟩
  have hsl : s.length = 8 := by rw [hs, shaBlock_length _ _ hst]
  have b1 := fun w h => block_any st bl hst hbl w h
  have b2 := fun w => refBlock_any st bl hst hbl w
  rw [← hs] at b1 b2
  have B1 := Lib.hid b1
  have B2 := Lib.hid b2
  obtain ⟨P, hP⟩ : ∃ P, P = padI n := ⟨_, rfl⟩
  have p1 := fun w => pad_int n (by omega) w
  have p2 := fun w => refPad_int n (by omega) w
  rw [← hP] at p1 p2
  have P1 := Lib.hid p1
  have P2 := Lib.hid p2
  clear hs b1 b2 hP p1 p2
  have R0 : RowIs ((w.alloc (.cells (u32s st) 23)).alloc (.cells (u8s bl) 24)) w.heap.size (u32s st) := (RowIs.new _ _ _).alloc _
  have R1 : RowIs ((w.alloc (.cells (u32s st) 23)).alloc (.cells (u8s bl) 24)) (w.heap.size + 1) (u8s bl) := RowIs.new' (by simp)
  go_enter Tryd.func3, Tryd.ntmps3
  go_wp2_with fail
  refine (awake_any _ he).mono ?_
  rintro e w1 ⟨rfl, hb1⟩
  replace he := he.step hb1; replace R0 := R0.step hb1; replace R1 := R1.step hb1
  replace HB := HB.trans (hb1.mono HB.size)
  have R0h := R0.has; have R0r := R0.row; have R0l := R0.lt; have R1h := R1.has; have R1r := R1.row; have R1l := R1.lt
  go_wp2_with fail
  refine (B1.out _ he.rounds).mono ?_
  rintro e w2 ⟨rfl, hb2⟩
  clear R0h R0r R0l R1h R1r R1l
  replace R0 := R0.step hb2; replace R1 := R1.step hb2
  replace HB := HB.trans (hb2.mono HB.size)
  go_wp2_with fail
  have hq := (Below.refl w2.heap.size w2).alloc (Nat.le_refl _) (.cells (u32s s) 23)
  have R2 : RowIs (w2.alloc (.cells (u32s s) 23)) w2.heap.size (u32s s) := RowIs.new _ _ _
  replace R0 := R0.step hq; replace R1 := R1.step hq
  replace HB := HB.trans (hq.mono HB.size)
  refine (P1.out _).mono ?_
  rintro e w3 ⟨v3, rfl, hv3, hb3⟩
  replace R0 := R0.step hb3; replace R1 := R1.step hb3; replace R2 := R2.step hb3
  replace HB := HB.trans (hb3.mono HB.size)
  clear hb1 hb2 hq hb3
  go_wp2_with fail
  refine wp_region_lexS [] [2, 3, 4] (Three w2.heap.size w.heap.size (w.heap.size + 1) (u32s s) (u32s st) (u8s bl)) (by kernel_rfl) (by decide +kernel) ⟨R2.drew, R0.drew, R1.drew⟩ (fun hS => ?_)
  (go_wp2_with (first | (refine wpLexS_nil ?_) | (refine wpLexS_pure rfl (fun _ _ => ?_); go_simp; refine ⟨_, fun w9 hw9 => (by have s1 := hw9.1.has; have s2 := hw9.2.1.has; have s3 := hw9.2.2.has; go_simp; rfl), ?_⟩) | (refine wpLexS_pure0 rfl (fun _ _ => ?_); go_simp; try go_bits) | (refine wpLexS_read rfl (fun _ _ => ?_); go_simp; try go_bits) | (refine wpLexS_loud rfl (fun KL hKL => ?_))))
  refine (B2.out _).mono ?_
  rintro e w4 ⟨rfl, hb4⟩
  (go_wp2_with (first | (refine wpLexS_nil ?_) | (refine wpLexS_pure rfl (fun _ _ => ?_); go_simp; refine ⟨_, fun w9 hw9 => (by have s1 := hw9.1.has; have s2 := hw9.2.1.has; have s3 := hw9.2.2.has; go_simp; rfl), ?_⟩) | (refine wpLexS_pure0 rfl (fun _ _ => ?_); go_simp; try go_bits) | (refine wpLexS_read rfl (fun _ _ => ?_); go_simp; try go_bits) | (refine wpLexS_loud rfl (fun KL hKL => ?_))))
  replace hS := hS.step hb4
  replace hb4 : Below w3.heap.size w3 w4 := Below.pred (w1 := w3) (by repeat (first | with_reducible exact Below.refl _ _ | with_reducible assumption | refine Below.drew ?_ | refine below_drewN ?_ | refine Below.alloc ?_ (by first | omega | (simp; done) | (simp; omega)) _ | refine below_setRow ?_ (by omega) _ | refine Below.setCell ?_ (by first | omega | (simp; done) | (simp; omega)) _)) hb4
  replace hv3 := hv3.step hb4
  replace HB := HB.trans (hb4.mono HB.size)
  refine hKL _ _ hS (fun _ => ?_)
  (go_wp2_with (first | (refine wpLexS_nil ?_) | (refine wpLexS_pure rfl (fun _ _ => ?_); go_simp; refine ⟨_, fun w9 hw9 => (by have s1 := hw9.1.has; have s2 := hw9.2.1.has; have s3 := hw9.2.2.has; go_simp; rfl), ?_⟩) | (refine wpLexS_pure0 rfl (fun _ _ => ?_); go_simp; try go_bits) | (refine wpLexS_read rfl (fun _ _ => ?_); go_simp; try go_bits) | (refine wpLexS_loud rfl (fun KL hKL => ?_))))
  refine (P2.out _).mono ?_
  rintro e w5 ⟨v5, rfl, hv5, hb5⟩
  (go_wp2_with (first | (refine wpLexS_nil ?_) | (refine wpLexS_pure rfl (fun _ _ => ?_); go_simp; refine ⟨_, fun w9 hw9 => (by have s1 := hw9.1.has; have s2 := hw9.2.1.has; have s3 := hw9.2.2.has; go_simp; rfl), ?_⟩) | (refine wpLexS_pure0 rfl (fun _ _ => ?_); go_simp; try go_bits) | (refine wpLexS_read rfl (fun _ _ => ?_); go_simp; try go_bits) | (refine wpLexS_loud rfl (fun KL hKL => ?_))))
  replace hS := hS.step hb5
  replace hv3 := hv3.step hb5
  replace HB := HB.trans (hb5.mono HB.size)
  refine hKL _ _ hS (fun _ => ?_)
  (go_wp2_with (first | (refine wpLexS_nil ?_) | (refine wpLexS_pure rfl (fun _ _ => ?_); go_simp; refine ⟨_, fun w9 hw9 => (by have s1 := hw9.1.has; have s2 := hw9.2.1.has; have s3 := hw9.2.2.has; go_simp; rfl), ?_⟩) | (refine wpLexS_pure0 rfl (fun _ _ => ?_); go_simp; try go_bits) | (refine wpLexS_read rfl (fun _ _ => ?_); go_simp; try go_bits) | (refine wpLexS_loud rfl (fun KL hKL => ?_))))
  refine (refSame_bs hv3 hv5).mono ?_
  rintro e w6 ⟨rfl, hb6⟩
  (go_wp2_with (first | (refine wpLexS_nil ?_) | (refine wpLexS_pure rfl (fun _ _ => ?_); go_simp; refine ⟨_, fun w9 hw9 => (by have s1 := hw9.1.has; have s2 := hw9.2.1.has; have s3 := hw9.2.2.has; go_simp; rfl), ?_⟩) | (refine wpLexS_pure0 rfl (fun _ _ => ?_); go_simp; try go_bits) | (refine wpLexS_read rfl (fun _ _ => ?_); go_simp; try go_bits) | (refine wpLexS_loud rfl (fun KL hKL => ?_))))
  replace hS := hS.step hb6
  replace HB := HB.trans (hb6.mono HB.size)
  refine hKL _ _ hS (fun _ => ?_)
  (go_wp2_with (first | (refine wpLexS_nil ?_) | (refine wpLexS_pure rfl (fun _ _ => ?_); go_simp; refine ⟨_, fun w9 hw9 => (by have s1 := hw9.1.has; have s2 := hw9.2.1.has; have s3 := hw9.2.2.has; go_simp; rfl), ?_⟩) | (refine wpLexS_pure0 rfl (fun _ _ => ?_); go_simp; try go_bits) | (refine wpLexS_read rfl (fun _ _ => ?_); go_simp; try go_bits) | (refine wpLexS_loud rfl (fun KL hKL => ?_))))
  go_ret
  exact ⟨by simp, HB⟩
end Go.Proofs.YtopmdbmnlflpgaaDoor
