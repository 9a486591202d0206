/- Layer 26: See. Printed by gen_mdl5.py. -/
import Derived.Test.YtlfplikkifjnfaaMdl4
namespace Go.Proofs.Ytlfplikkifjnfaa
open Go.RowKit
def BoxS (b : Nat) (cs : Array Value) (w : World) : Prop := RowIs w b cs
set_option maxRecDepth 100000 in
set_option maxHeartbeats 1600000 in
theorem see_10 (q base : Nat) (v : Value) (x : List UInt8) (s : BL × BL) (w : World) (hs : Qs w q base s) (hx : Bs w v x) (hl1 : s.1.length ≤ 1000) (hl2 : s.2.length ≤ 1000) :
    Calls Try.prog 8 #[.pointer (some ⟨q, 0, none⟩), .agg (evC 1 0 0 v)] w (SeeRes q base (true, (s.1 ++ [x], s.2)) w) := by
  obtain ⟨Av, cv, rfl, -, -, -⟩ := id hx
  have hB : Below w.heap.size w (w.alloc (.cells (evC 1 0 0 (.slice Av x.length cv)) 36)) := (by repeat (first | with_reducible exact Below.refl _ _ | with_reducible assumption | refine Below.drew ?_ | refine below_drewN ?_ | refine Below.alloc ?_ (by first | omega | (simp; done) | (simp; omega)) _ | refine below_setRow ?_ (by omega) _ | refine Below.setCell ?_ (by first | omega | (simp; done) | (simp; omega)) _))
  have R : RowIs (w.alloc (.cells (evC 1 0 0 (.slice Av x.length cv)) 36)) w.heap.size (evC 1 0 0 (.slice Av x.length cv)) := RowIs.new _ _ _
  obtain ⟨hbq, hqs⟩ := hs.lt
  replace hs := hs.step hB
  replace hx := hx.step hB
  have L := EvRow.load R
  have k0 := EvRow.c0 R; have k1 := EvRow.c1 R; have k3 := EvRow.c3 R
  have T := tells_any 1 0 0 (.slice Av x.length cv) (w.alloc (.cells (evC 1 0 0 (.slice Av x.length cv)) 36))
  rw [show tellsB 1 0 0 = true by decide] at T
  have T := Lib.hid T
  have HL1 := Lib.hid hl1; have HL2 := Lib.hid hl2
  clear hl1 hl2
  go_enter Try.func8, Try.ntmps8
  go_wp2_with fail
  refine T.out.mono ?_
  rintro e w1 ⟨rfl, hb1⟩
  replace R := R.step hb1
  replace hs := hs.step hb1
  replace hx := hx.step hb1
  replace hB := hB.trans (hb1.mono (by simp))
  have L := EvRow.load R
  have k0 := EvRow.c0 R; have k1 := EvRow.c1 R; have k3 := EvRow.c3 R
  have hq9 : w.heap.size < w1.heap.size := R.lt
  clear hb1 T
  go_wp2_with fail
  refine wp_region_lexT [] [2, 7] (BoxS w.heap.size (evC 1 0 0 (.slice Av x.length cv))) (by kernel_rfl) (by decide +kernel) R.drew (fun hS => ?_)
  have hd1 : Below w1.heap.size w1 w1.drew := (by repeat (first | with_reducible exact Below.refl _ _ | with_reducible assumption | refine Below.drew ?_ | refine below_drewN ?_ | refine Below.alloc ?_ (by first | omega | (simp; done) | (simp; omega)) _ | refine below_setRow ?_ (by omega) _ | refine Below.setCell ?_ (by first | omega | (simp; done) | (simp; omega)) _))
  replace hs := hs.step hd1
  replace hx := hx.step hd1
  replace hB := hB.trans (hd1.mono (by omega))
  replace hq9 : w.heap.size < w1.drew.heap.size := hq9
  clear R L k0 k1 k3 hd1
  generalize w1.drew = w2 at hs hx hB hS hq9 ⊢
  (go_wp2_with (first | (refine wpLexT_pure rfl (fun _ _ => ?_); go_simp; refine ⟨_, fun w9 hw9 => (by have s1 := EvRow.c1 (show RowIs _ _ _ from hw9); have s3 := EvRow.c3 (show RowIs _ _ _ from hw9); go_simp; rfl), ?_⟩) | (refine wpLexT_pure0 rfl (fun _ _ => ?_); go_simp; try go_bits) | (refine wpLexT_read rfl (fun _ _ => ?_); go_simp; try go_bits)))
  refine wpLexT_loud rfl (fun KL hKL => ?_)
  go_wp2_with fail
  refine (clone_bs hx).mono ?_
  rintro e w3 ⟨vc, rfl, hvc, hb3⟩
  go_wp2_with fail
  refine hKL _ _ (RowIs.step hS hb3) (fun _ => ?_)
  replace hs := hs.step hb3
  replace hB := hB.trans (hb3.mono (by omega))
  clear hx hS hb3
  refine wpLexT_last (fun KL hKL => ?_)
  go_wp2_with fail
  refine (add0_any q base vc x s w3 hs hvc HL1.out).mono ?_
  rintro e w4 ⟨rfl, hs4, hb4⟩
  go_wp2_with fail
  go_ret
  exact ⟨rfl, hs4, UpdQ.pre hB hbq hb4⟩
set_option maxRecDepth 100000 in
set_option maxHeartbeats 1600000 in
theorem see_11 (q base : Nat) (v : Value) (x : List UInt8) (s : BL × BL) (w : World) (hs : Qs w q base s) (hx : Bs w v x) (hl1 : s.1.length ≤ 1000) (hl2 : s.2.length ≤ 1000) :
    Calls Try.prog 8 #[.pointer (some ⟨q, 0, none⟩), .agg (evC 1 1 0 v)] w (SeeRes q base (true, (s.1, s.2 ++ [x])) w) := by
  obtain ⟨Av, cv, rfl, -, -, -⟩ := id hx
  have hB : Below w.heap.size w (w.alloc (.cells (evC 1 1 0 (.slice Av x.length cv)) 36)) := (by repeat (first | with_reducible exact Below.refl _ _ | with_reducible assumption | refine Below.drew ?_ | refine below_drewN ?_ | refine Below.alloc ?_ (by first | omega | (simp; done) | (simp; omega)) _ | refine below_setRow ?_ (by omega) _ | refine Below.setCell ?_ (by first | omega | (simp; done) | (simp; omega)) _))
  have R : RowIs (w.alloc (.cells (evC 1 1 0 (.slice Av x.length cv)) 36)) w.heap.size (evC 1 1 0 (.slice Av x.length cv)) := RowIs.new _ _ _
  obtain ⟨hbq, hqs⟩ := hs.lt
  replace hs := hs.step hB
  replace hx := hx.step hB
  have L := EvRow.load R
  have k0 := EvRow.c0 R; have k1 := EvRow.c1 R; have k3 := EvRow.c3 R
  have T := tells_any 1 1 0 (.slice Av x.length cv) (w.alloc (.cells (evC 1 1 0 (.slice Av x.length cv)) 36))
  rw [show tellsB 1 1 0 = true by decide] at T
  have T := Lib.hid T
  have HL1 := Lib.hid hl1; have HL2 := Lib.hid hl2
  clear hl1 hl2
  go_enter Try.func8, Try.ntmps8
  go_wp2_with fail
  refine T.out.mono ?_
  rintro e w1 ⟨rfl, hb1⟩
  replace R := R.step hb1
  replace hs := hs.step hb1
  replace hx := hx.step hb1
  replace hB := hB.trans (hb1.mono (by simp))
  have L := EvRow.load R
  have k0 := EvRow.c0 R; have k1 := EvRow.c1 R; have k3 := EvRow.c3 R
  have hq9 : w.heap.size < w1.heap.size := R.lt
  clear hb1 T
  go_wp2_with fail
  refine wp_region_lexT [] [2, 7] (BoxS w.heap.size (evC 1 1 0 (.slice Av x.length cv))) (by kernel_rfl) (by decide +kernel) R.drew (fun hS => ?_)
  have hd1 : Below w1.heap.size w1 w1.drew := (by repeat (first | with_reducible exact Below.refl _ _ | with_reducible assumption | refine Below.drew ?_ | refine below_drewN ?_ | refine Below.alloc ?_ (by first | omega | (simp; done) | (simp; omega)) _ | refine below_setRow ?_ (by omega) _ | refine Below.setCell ?_ (by first | omega | (simp; done) | (simp; omega)) _))
  replace hs := hs.step hd1
  replace hx := hx.step hd1
  replace hB := hB.trans (hd1.mono (by omega))
  replace hq9 : w.heap.size < w1.drew.heap.size := hq9
  clear R L k0 k1 k3 hd1
  generalize w1.drew = w2 at hs hx hB hS hq9 ⊢
  (go_wp2_with (first | (refine wpLexT_pure rfl (fun _ _ => ?_); go_simp; refine ⟨_, fun w9 hw9 => (by have s1 := EvRow.c1 (show RowIs _ _ _ from hw9); have s3 := EvRow.c3 (show RowIs _ _ _ from hw9); go_simp; rfl), ?_⟩) | (refine wpLexT_pure0 rfl (fun _ _ => ?_); go_simp; try go_bits) | (refine wpLexT_read rfl (fun _ _ => ?_); go_simp; try go_bits)))
  refine wpLexT_loud rfl (fun KL hKL => ?_)
  go_wp2_with fail
  refine (clone_bs hx).mono ?_
  rintro e w3 ⟨vc, rfl, hvc, hb3⟩
  go_wp2_with fail
  refine hKL _ _ (RowIs.step hS hb3) (fun _ => ?_)
  replace hs := hs.step hb3
  replace hB := hB.trans (hb3.mono (by omega))
  clear hx hS hb3
  refine wpLexT_last (fun KL hKL => ?_)
  go_wp2_with fail
  refine (add1_any q base vc x s w3 hs hvc HL2.out).mono ?_
  rintro e w4 ⟨rfl, hs4, hb4⟩
  go_wp2_with fail
  go_ret
  exact ⟨rfl, hs4, UpdQ.pre hB hbq hb4⟩
set_option maxRecDepth 100000 in
set_option maxHeartbeats 1600000 in
theorem see_60 (q base : Nat) (v : Value) (x : List UInt8) (s : BL × BL) (w : World) (hs : Qs w q base s) (hx : Bs w v x) (hl1 : s.1.length ≤ 1000) (hl2 : s.2.length ≤ 1000) :
    Calls Try.prog 8 #[.pointer (some ⟨q, 0, none⟩), .agg (evC 6 0 0 v)] w (SeeRes q base ((takeP x s.2).1, (s.1, (takeP x s.2).2)) w) := by
  obtain ⟨Av, cv, rfl, -, -, -⟩ := id hx
  have hB : Below w.heap.size w (w.alloc (.cells (evC 6 0 0 (.slice Av x.length cv)) 36)) := (by repeat (first | with_reducible exact Below.refl _ _ | with_reducible assumption | refine Below.drew ?_ | refine below_drewN ?_ | refine Below.alloc ?_ (by first | omega | (simp; done) | (simp; omega)) _ | refine below_setRow ?_ (by omega) _ | refine Below.setCell ?_ (by first | omega | (simp; done) | (simp; omega)) _))
  have R : RowIs (w.alloc (.cells (evC 6 0 0 (.slice Av x.length cv)) 36)) w.heap.size (evC 6 0 0 (.slice Av x.length cv)) := RowIs.new _ _ _
  obtain ⟨hbq, hqs⟩ := hs.lt
  replace hs := hs.step hB
  replace hx := hx.step hB
  have L := EvRow.load R
  have k0 := EvRow.c0 R; have k1 := EvRow.c1 R; have k3 := EvRow.c3 R
  have T := tells_any 6 0 0 (.slice Av x.length cv) (w.alloc (.cells (evC 6 0 0 (.slice Av x.length cv)) 36))
  rw [show tellsB 6 0 0 = true by decide] at T
  have T := Lib.hid T
  have HL1 := Lib.hid hl1; have HL2 := Lib.hid hl2
  clear hl1 hl2
  go_enter Try.func8, Try.ntmps8
  go_wp2_with fail
  refine T.out.mono ?_
  rintro e w1 ⟨rfl, hb1⟩
  replace R := R.step hb1
  replace hs := hs.step hb1
  replace hx := hx.step hb1
  replace hB := hB.trans (hb1.mono (by simp))
  have L := EvRow.load R
  have k0 := EvRow.c0 R; have k1 := EvRow.c1 R; have k3 := EvRow.c3 R
  have hq9 : w.heap.size < w1.heap.size := R.lt
  clear hb1 T
  go_wp2_with fail
  refine wp_region_lexS [] [2, 7] (BoxS w.heap.size (evC 6 0 0 (.slice Av x.length cv))) (by kernel_rfl) (by decide +kernel) R.drew (fun hS => ?_)
  have hd1 : Below w1.heap.size w1 w1.drew := (by repeat (first | with_reducible exact Below.refl _ _ | with_reducible assumption | refine Below.drew ?_ | refine below_drewN ?_ | refine Below.alloc ?_ (by first | omega | (simp; done) | (simp; omega)) _ | refine below_setRow ?_ (by omega) _ | refine Below.setCell ?_ (by first | omega | (simp; done) | (simp; omega)) _))
  replace hs := hs.step hd1
  replace hx := hx.step hd1
  replace hB := hB.trans (hd1.mono (by omega))
  replace hq9 : w.heap.size < w1.drew.heap.size := hq9
  clear R L k0 k1 k3 hd1
  generalize w1.drew = w2 at hs hx hB hS hq9 ⊢
  (go_wp2_with (first | (refine wpLexS_nil ?_) | (refine wpLexS_pure rfl (fun _ _ => ?_); go_simp; refine ⟨_, fun w9 hw9 => (by have s1 := EvRow.c1 (show RowIs _ _ _ from hw9); have s3 := EvRow.load (show RowIs _ _ _ from hw9); go_simp; rfl), ?_⟩) | (refine wpLexS_pure0 rfl (fun _ _ => ?_); go_simp; try go_bits) | (refine wpLexS_read rfl (fun _ _ => ?_); go_simp; try go_bits)))
  refine wpLexS_loud rfl (fun KL hKL => ?_)
  go_wp2_with fail
  refine (is_any 6 0 0 (.slice Av x.length cv) w2).mono ?_
  rintro e w3 ⟨xb, rfl, hxb, Rx, hb3⟩
  go_wp2_with fail
  replace hS : RowIs w3 w.heap.size (evC 6 0 0 (.slice Av x.length cv)) := RowIs.step hS hb3
  refine hKL _ _ hS (fun _ => ?_)
  replace hs := hs.step hb3
  replace hx := hx.step hb3
  replace hB := hB.trans (hb3.mono (by omega))
  have cx := EvRow.c3 Rx
  clear Rx hb3
  refine wpLexS_loud rfl (fun KL hKL => ?_)
  go_wp2_with fail
  refine (take1_any q base xb _ x s w3 hs cx hx).mono ?_
  rintro e w4 ⟨rfl, hs4, hb4, hz4, ho4⟩
  go_wp2_with fail
  have e4 := ho4 w.heap.size (RowIs.lt hS) (by omega)
  refine hKL _ _ ⟨by unfold IsRow; rw [e4]; exact hS.row, by unfold rowOf; rw [e4]; exact hS.has⟩ (fun _ => ?_)
  clear e4 ho4 cx hx hS
  (go_wp2_with (first | (refine wpLexS_nil ?_) | (refine wpLexS_pure rfl (fun _ _ => ?_); go_simp; refine ⟨_, fun w9 hw9 => (by have s1 := EvRow.c1 (show RowIs _ _ _ from hw9); go_simp; rfl), ?_⟩) | (refine wpLexS_pure0 rfl (fun _ _ => ?_); go_simp; try go_bits) | (refine wpLexS_read rfl (fun _ _ => ?_); go_simp; try go_bits)))
  go_ret
  exact ⟨rfl, hs4, UpdQ.pre hB hbq hb4⟩
set_option maxRecDepth 100000 in
set_option maxHeartbeats 1600000 in
theorem see_61 (q base : Nat) (v : Value) (x : List UInt8) (s : BL × BL) (w : World) (hs : Qs w q base s) (hx : Bs w v x) (hl1 : s.1.length ≤ 1000) (hl2 : s.2.length ≤ 1000) :
    Calls Try.prog 8 #[.pointer (some ⟨q, 0, none⟩), .agg (evC 6 1 0 v)] w (SeeRes q base ((takeP x s.1).1, ((takeP x s.1).2, s.2)) w) := by
  obtain ⟨Av, cv, rfl, -, -, -⟩ := id hx
  have hB : Below w.heap.size w (w.alloc (.cells (evC 6 1 0 (.slice Av x.length cv)) 36)) := (by repeat (first | with_reducible exact Below.refl _ _ | with_reducible assumption | refine Below.drew ?_ | refine below_drewN ?_ | refine Below.alloc ?_ (by first | omega | (simp; done) | (simp; omega)) _ | refine below_setRow ?_ (by omega) _ | refine Below.setCell ?_ (by first | omega | (simp; done) | (simp; omega)) _))
  have R : RowIs (w.alloc (.cells (evC 6 1 0 (.slice Av x.length cv)) 36)) w.heap.size (evC 6 1 0 (.slice Av x.length cv)) := RowIs.new _ _ _
  obtain ⟨hbq, hqs⟩ := hs.lt
  replace hs := hs.step hB
  replace hx := hx.step hB
  have L := EvRow.load R
  have k0 := EvRow.c0 R; have k1 := EvRow.c1 R; have k3 := EvRow.c3 R
  have T := tells_any 6 1 0 (.slice Av x.length cv) (w.alloc (.cells (evC 6 1 0 (.slice Av x.length cv)) 36))
  rw [show tellsB 6 1 0 = true by decide] at T
  have T := Lib.hid T
  have HL1 := Lib.hid hl1; have HL2 := Lib.hid hl2
  clear hl1 hl2
  go_enter Try.func8, Try.ntmps8
  go_wp2_with fail
  refine T.out.mono ?_
  rintro e w1 ⟨rfl, hb1⟩
  replace R := R.step hb1
  replace hs := hs.step hb1
  replace hx := hx.step hb1
  replace hB := hB.trans (hb1.mono (by simp))
  have L := EvRow.load R
  have k0 := EvRow.c0 R; have k1 := EvRow.c1 R; have k3 := EvRow.c3 R
  have hq9 : w.heap.size < w1.heap.size := R.lt
  clear hb1 T
  go_wp2_with fail
  refine wp_region_lexS [] [2, 7] (BoxS w.heap.size (evC 6 1 0 (.slice Av x.length cv))) (by kernel_rfl) (by decide +kernel) R.drew (fun hS => ?_)
  have hd1 : Below w1.heap.size w1 w1.drew := (by repeat (first | with_reducible exact Below.refl _ _ | with_reducible assumption | refine Below.drew ?_ | refine below_drewN ?_ | refine Below.alloc ?_ (by first | omega | (simp; done) | (simp; omega)) _ | refine below_setRow ?_ (by omega) _ | refine Below.setCell ?_ (by first | omega | (simp; done) | (simp; omega)) _))
  replace hs := hs.step hd1
  replace hx := hx.step hd1
  replace hB := hB.trans (hd1.mono (by omega))
  replace hq9 : w.heap.size < w1.drew.heap.size := hq9
  clear R L k0 k1 k3 hd1
  generalize w1.drew = w2 at hs hx hB hS hq9 ⊢
  (go_wp2_with (first | (refine wpLexS_nil ?_) | (refine wpLexS_pure rfl (fun _ _ => ?_); go_simp; refine ⟨_, fun w9 hw9 => (by have s1 := EvRow.c1 (show RowIs _ _ _ from hw9); have s3 := EvRow.load (show RowIs _ _ _ from hw9); go_simp; rfl), ?_⟩) | (refine wpLexS_pure0 rfl (fun _ _ => ?_); go_simp; try go_bits) | (refine wpLexS_read rfl (fun _ _ => ?_); go_simp; try go_bits)))
  refine wpLexS_loud rfl (fun KL hKL => ?_)
  go_wp2_with fail
  refine (is_any 6 1 0 (.slice Av x.length cv) w2).mono ?_
  rintro e w3 ⟨xb, rfl, hxb, Rx, hb3⟩
  go_wp2_with fail
  replace hS : RowIs w3 w.heap.size (evC 6 1 0 (.slice Av x.length cv)) := RowIs.step hS hb3
  refine hKL _ _ hS (fun _ => ?_)
  replace hs := hs.step hb3
  replace hx := hx.step hb3
  replace hB := hB.trans (hb3.mono (by omega))
  have cx := EvRow.c3 Rx
  clear Rx hb3
  refine wpLexS_loud rfl (fun KL hKL => ?_)
  go_wp2_with fail
  refine (take0_any q base xb _ x s w3 hs cx hx).mono ?_
  rintro e w4 ⟨rfl, hs4, hb4, hz4, ho4⟩
  go_wp2_with fail
  have e4 := ho4 w.heap.size (RowIs.lt hS) (by omega)
  refine hKL _ _ ⟨by unfold IsRow; rw [e4]; exact hS.row, by unfold rowOf; rw [e4]; exact hS.has⟩ (fun _ => ?_)
  clear e4 ho4 cx hx hS
  (go_wp2_with (first | (refine wpLexS_nil ?_) | (refine wpLexS_pure rfl (fun _ _ => ?_); go_simp; refine ⟨_, fun w9 hw9 => (by have s1 := EvRow.c1 (show RowIs _ _ _ from hw9); go_simp; rfl), ?_⟩) | (refine wpLexS_pure0 rfl (fun _ _ => ?_); go_simp; try go_bits) | (refine wpLexS_read rfl (fun _ _ => ?_); go_simp; try go_bits)))
  go_ret
  exact ⟨rfl, hs4, UpdQ.pre hB hbq hb4⟩
set_option maxRecDepth 100000 in
theorem see_no (q base : Nat) (d who code : Int) (v : Value) (x : List UInt8) (s : BL × BL) (w : World) (hs : Qs w q base s) (hx : Bs w v x) (ht : tellsB d who code = false) :
    Calls Try.prog 8 #[.pointer (some ⟨q, 0, none⟩), .agg (evC d who code v)] w (SeeRes q base (true, s) w) := by
  obtain ⟨Av, cv, rfl, -, -, -⟩ := id hx
  have hB : Below w.heap.size w (w.alloc (.cells (evC d who code (.slice Av x.length cv)) 36)) := (by repeat (first | with_reducible exact Below.refl _ _ | with_reducible assumption | refine Below.drew ?_ | refine below_drewN ?_ | refine Below.alloc ?_ (by first | omega | (simp; done) | (simp; omega)) _ | refine below_setRow ?_ (by omega) _ | refine Below.setCell ?_ (by first | omega | (simp; done) | (simp; omega)) _))
  have R : RowIs (w.alloc (.cells (evC d who code (.slice Av x.length cv)) 36)) w.heap.size (evC d who code (.slice Av x.length cv)) := RowIs.new _ _ _
  obtain ⟨hbq, hqs⟩ := hs.lt
  replace hs := hs.step hB
  have L := EvRow.load R
  have T := tells_any d who code (.slice Av x.length cv) (w.alloc (.cells (evC d who code (.slice Av x.length cv)) 36))
  rw [ht] at T
  have T := Lib.hid T
  clear ht hx R
  go_enter Try.func8, Try.ntmps8
  go_wp2_with fail
  refine T.out.mono ?_
  rintro e w1 ⟨rfl, hb1⟩
  go_wp2_with fail
  go_ret
  exact ⟨rfl, hs.step hb1, UpdQ.of (hB.trans (hb1.mono (by simp))) hbq⟩
theorem see_any (q base : Nat) (d who code : Int) (v : Value) (x : List UInt8) (s : BL × BL) (w : World) (hs : Qs w q base s) (hx : Bs w v x) (h1 : s.1.length ≤ 1000) (h2 : s.2.length ≤ 1000) :
    Calls Try.prog 8 #[.pointer (some ⟨q, 0, none⟩), .agg (evC d who code v)] w (SeeRes q base (seeP d who code x s) w) := by
  unfold seeP
  cases ht : tellsB d who code with
  | false => exact see_no q base d who code v x s w hs hx ht
  | true =>
    unfold tellsB at ht
    simp only [Bool.and_eq_true, Bool.or_eq_true, beq_iff_eq] at ht
    obtain ⟨⟨hd, rfl⟩, hw⟩ := ht
    rw [if_pos rfl]
    rcases hd with rfl | rfl <;> rcases hw with rfl | rfl
    · exact see_10 q base v x s w hs hx h1 h2
    · exact see_11 q base v x s w hs hx h1 h2
    · exact see_60 q base v x s w hs hx h1 h2
    · exact see_61 q base v x s w hs hx h1 h2
end Go.Proofs.Ytlfplikkifjnfaa
