/- Layer 2: meters. -/
import Derived.Test.YtopmdbmnlflpgaaDoorShaM
import Derived.Test.YtopmdbmnlflpgaaDoorUpd
import Derived.Laws.LoneSync
namespace Go.Proofs.YtopmdbmnlflpgaaDoor
open Go.RowKit
/-- a meter's cells: how many, whether it keeps, its lock, and what it kept -/
@[irreducible] def metC (n : Int) (k : Bool) (all : Value) : Array Value := #[.int .i64 n, .bool k, .int .i32 0, .int .u32 0, all]
theorem metC_def (n : Int) (k : Bool) (all : Value) : metC n k all = #[.int .i64 n, .bool k, .int .i32 0, .int .u32 0, all] := by unfold metC; rfl
def Met (w : World) (g : Nat) (n : Int) (k : Bool) (all : Value) : Prop := RowIs w g (metC n k all)
theorem Met.c0 {w : World} {g : Nat} {n : Int} {k : Bool} {all : Value} (h : Met w g n k all) : w.cell? ⟨g, 0, none⟩ = some (.int .i64 n) := by
  obtain ⟨t, ht⟩ := h.row.heap
  rw [h.has] at ht
  rw [cell_of_row _ _ _ _ t (0, 0) ht, metC_def]; rfl
theorem Met.c1 {w : World} {g : Nat} {n : Int} {k : Bool} {all : Value} (h : Met w g n k all) : w.cell? ⟨g, 1, none⟩ = some (.bool k) := by
  obtain ⟨t, ht⟩ := h.row.heap
  rw [h.has] at ht
  rw [cell_of_row _ _ _ _ t (0, 0) ht, metC_def]; rfl
theorem Met.c2 {w : World} {g : Nat} {n : Int} {k : Bool} {all : Value} (h : Met w g n k all) : w.cell? ⟨g, 2, none⟩ = some (.int .i32 0) := by
  obtain ⟨t, ht⟩ := h.row.heap
  rw [h.has] at ht
  rw [cell_of_row _ _ _ _ t (0, 0) ht, metC_def]; rfl
theorem Met.c4 {w : World} {g : Nat} {n : Int} {k : Bool} {all : Value} (h : Met w g n k all) : w.cell? ⟨g, 4, none⟩ = some all := by
  obtain ⟨t, ht⟩ := h.row.heap
  rw [h.has] at ht
  rw [cell_of_row _ _ _ _ t (0, 0) ht, metC_def]; rfl
theorem Met.step {w w' : World} {g : Nat} {n : Int} {k : Bool} {all : Value} (h : Met w g n k all) (hb : Below w.heap.size w w') : Met w' g n k all := RowIs.step h hb
theorem Met.setN {w : World} {g : Nat} {n : Int} {k : Bool} {all : Value} (h : Met w g n k all) (n' : Int) : Met (w.setCell ⟨g, 0, none⟩ (.int .i64 n')) g n' k all := by
  have := RowIs.put h 0 (.int .i64 n')
  unfold Met; rw [metC_def] at this ⊢
  simpa using this
theorem Met.no8 {w : World} {g : Nat} {n : Int} {k : Bool} {all : Value} (h : Met w g n k all) (hall : ∀ b, all ≠ .int .u8 b) : No8 w g := by
  refine no8_row h ?_
  rw [metC_def]
  cases all <;> simp_all
theorem row32_ne {w : World} {g r : Nat} {n : Int} {k : Bool} {all : Value} {l : List UInt32} (h : Met w g n k all) (hr : RowIs w r (u32s l)) (hl : 0 < l.length) : r ≠ g := by
  rintro rfl
  have h1 := h.c0
  have h2 := hr.c32 0 hl
  rw [h1] at h2
  cases h2
theorem row8_ne {w : World} {g r : Nat} {n : Int} {k : Bool} {all : Value} {l : List UInt8} (h : Met w g n k all) (hr : RowIs w r (u8s l)) (hl : 0 < l.length) : r ≠ g := by
  rintro rfl
  have h1 := h.c0
  obtain ⟨b, o, e, _, hc⟩ := hr.rd hl
  cases e
  have h2 := hc 0 hl
  rw [h1] at h2
  cases h2
/-- sha's two laid variables -/
structure ShaEnv (w : World) : Prop where
  rounds : RowIs w 0 (u32s roundsL)
  start : RowIs w 1 (u32s startS)
theorem ShaEnv.step {w w' : World} (h : ShaEnv w) (hb : Below w.heap.size w w') : ShaEnv w' := ⟨h.rounds.step hb, h.start.step hb⟩
theorem ShaEnv.upd {w w' : World} {g : Nat} {n : Int} {k : Bool} {all : Value} (h : ShaEnv w) (hm : Met w g n k all) (hu : Upd g w w') : ShaEnv w' :=
  ⟨h.rounds.upd hu (row32_ne hm h.rounds (by rw [roundsL_length]; omega)), h.start.upd hu (row32_ne hm h.start (by rw [startS_length]; omega))⟩
theorem metBuild (k : Bool) (w : World) : (buildK 131 #[(1, .bool k)]).run Tryd.prog w = .ok (.value (.agg (metC 0 k (.slice none 0 0)))) w :=
  run_buildK (by rw [metC_def]; change _ = _; kernel_rfl) w
theorem xmetBuild (ev : Operand → Value) (d : Option Tmp) (ps : Array (Nat × Operand)) (ty : TypeId) (p : String) (af : Array Edge) (g : Option (Nat × Bool)) :
    execOp ev ⟨d, .build 131 ps, ty, p, af, g⟩ = buildK 131 (ps.map fun x => (x.1, ev x.2)) := exec_buildK ev d _ ps ty p af g
attribute [local go_sem ↓] xmetBuild
attribute [local go_sem] metBuild
theorem new_any (k : Bool) (w : World) : Calls Tryd.prog 25 #[.bool k] w fun e w' => ∃ g, e = .returned (.pointer (some ⟨g, 0, none⟩)) ∧ Met w' g 0 k (.slice none 0 0) ∧ w.heap.size ≤ g ∧ Below w.heap.size w w' := by
  go_enter Tryd.func25, Tryd.ntmps25
  go_wp2_with fail
  go_ret
  exact ⟨w.heap.size, rfl, RowIs.new _ _ _, Nat.le_refl _, (Below.refl _ _).alloc (Nat.le_refl _) _⟩
theorem add_any (g : Nat) (n y : Int) (h1 : -4611686018427387904 ≤ n) (h2 : n ≤ 4611686018427387904) (hy1 : 0 ≤ y) (hy2 : y ≤ 1000) (w : World) (hc : w.cell? ⟨g, 0, none⟩ = some (.int .i64 n)) (hz : w.frozen? ⟨g, 0, none⟩ = false) :
    Calls Tryd.prog 76 #[.pointer (some ⟨g, 0, none⟩), .int .i64 y] w fun e w' => e = .returned (.int .i64 (n + y)) ∧ w' = w.setCell ⟨g, 0, none⟩ (.int .i64 (n + y)) := by
  have hs : (Op.intArith .add .i64 n y).run Tryd.prog w = .ok (.int .i64 (n + y)) w := by
    simp [Op.intArith, IntKind.wrap_i64]; omega
  have hadd := run_call_add (f := 96) (fn := Tryd.f96) (P := Tryd.prog) Tryd.func96 (by kernel_rfl) (by kernel_rfl) (by kernel_rfl) .i64 (by kernel_rfl) hc hz hs
  go_enter Tryd.func76, Tryd.ntmps76
  go_wp2_with fail
  go_ret
  exact ⟨rfl, rfl⟩
theorem load_any (g : Nat) (n : Int) (w : World) (hc : w.cell? ⟨g, 0, none⟩ = some (.int .i64 n)) :
    Calls Tryd.prog 82 #[.pointer (some ⟨g, 0, none⟩)] w fun e w' => e = .returned (.int .i64 n) ∧ w' = w := by
  have hl := run_call_load (f := 100) (fn := Tryd.f100) (P := Tryd.prog) Tryd.func100 (by kernel_rfl) (by kernel_rfl) (by kernel_rfl) .i64 (by kernel_rfl) hc
  go_enter Tryd.func82, Tryd.ntmps82
  go_wp2_with fail
  go_ret
  exact ⟨rfl, rfl⟩
def SumRes (g : Nat) (n : Int) (k : Bool) (all : Value) (l : List UInt8) (w : World) (e : Ending) (w' : World) : Prop := e = .returned (.agg (u8s (shaB l))) ∧ Met w' g n k all ∧ Upd g w w'
set_option maxRecDepth 100000 in
set_option maxHeartbeats 1600000 in
theorem meterSum_any (g : Nat) (n : Int) (all : Value) (vl : Value) (ls : List (List UInt8)) (w : World) (hm : Met w g n false all) (hall : ∀ b, all ≠ .int .u8 b) (hr : BsL w vl ls) (hl : ls.flatten.length ≤ 17592186044416)
    (he : ShaEnv w) (h1 : -4611686018427387904 ≤ n) (h2 : n ≤ 4611686018427387904) :
    Calls Tryd.prog 26 #[.pointer (some ⟨g, 0, none⟩), vl] w (SumRes g (n + 1) false all ls.flatten w) := by
  obtain ⟨F, hF⟩ : ∃ F, F = ls.flatten := ⟨_, rfl⟩
  have hj := fun w h => join_bs vl ls (by omega) w h
  rw [← hF] at hj hl ⊢
  have HJ := Lib.hid hj
  clear hF hj
  have hgl := hm.lt
  go_enter Tryd.func26, Tryd.ntmps26
  go_wp2_with fail
  have HB : Below w.heap.size w (w.alloc (.cells (u8s (zeros 32)) 33)) := (by repeat (first | with_reducible exact Below.refl _ _ | with_reducible assumption | refine Below.drew ?_ | refine below_drewN ?_ | refine Below.alloc ?_ (by first | omega | (simp; done) | (simp; omega)) _ | refine below_setRow ?_ (by omega) _ | refine Below.setCell ?_ (by first | omega | (simp; done) | (simp; omega)) _))
  refine (HJ.out _ (hr.step HB)).mono ?_
  rintro e w1 ⟨v1, rfl, hv1, hb1⟩
  have R0 : RowIs w1 w.heap.size (u8s (zeros 32)) := (RowIs.new _ _ _).step hb1
  replace HB := HB.trans (hb1.mono HB.size)
  replace hm := hm.step HB
  replace he := he.step HB
  clear hb1
  go_wp2_with fail
  refine (add_any g n 1 h1 h2 (by omega) (by omega) w1 hm.c0 (RowIs.fz hm 0)).mono ?_
  rintro e w2' ⟨rfl, rfl⟩
  have hu : Upd g w1 (w1.setCell ⟨g, 0, none⟩ (.int .i64 (n + 1))) := (Upd.refl g w1).put 0 _
  obtain ⟨w2, hw2⟩ : ∃ w2, w2 = w1.setCell ⟨g, 0, none⟩ (.int .i64 (n + 1)) := ⟨_, rfl⟩
  have hv2 := hv1.upd hu (hm.no8 hall)
  have he2 := he.upd hm hu
  have R0 := R0.upd hu (by omega)
  have hm2 := hm.setN (n + 1)
  rw [← hw2] at hu hv2 he2 R0 hm2 ⊢
  clear hw2 he hv1 hm
  have c1 := hm2.c1
  go_wp2_with fail
  refine (sum_any v1 F w2 hv2 hl he2.rounds he2.start).mono ?_
  rintro e w3 ⟨rfl, hb3⟩
  replace R0 := R0.step hb3
  have R0h := R0.has; have R0r := R0.row; have R0l := R0.lt
  have hkl := shaB_length F
  obtain ⟨D, hD⟩ : ∃ D, D = shaB F := ⟨_, rfl⟩
  have HD := Lib.hid hD
  rw [← hD] at hkl ⊢
  clear hD
  go_wp2_with fail
  refine bodyPost_retRow 4 _ w.heap.size 32 rfl rfl (by omega) (by kernel_rfl) (by kernel_rfl) ?_ rfl ?_
  · go_simp
  · go_simp
    refine ⟨by rw [HD.out], (hm2.step hb3).set_ne (by omega) _, ?_⟩
    exact (((Upd.of HB).trans hu).then hb3).setRow (Nat.le_refl _) _
end Go.Proofs.YtopmdbmnlflpgaaDoor
