/- Layer 2: the digest of bytes. -/
import Derived.Test.YtopmdbmnlflpgaaDoorShaB
import Derived.Test.YtopmdbmnlflpgaaDoorShaD
import Derived.Test.YtopmdbmnlflpgaaDoorKeyT
import Derived.Laws.Cover3
namespace Go.Proofs.YtopmdbmnlflpgaaDoor
open Go.RowKit
@[irreducible] def wide (x : UInt32) : UInt64 := UInt64.ofNat x.toNat
theorem wide_fold (x : UInt32) : n64 (wide x) = n32 x := by
  unfold wide
  rw [n64_def, n32_def, UInt64.toNat_ofNat']; have := x.toNat_lt; omega
theorem beB_def (x : UInt32) : beB x = (lowB (wide x) 4).reverse := by unfold beB wide; rfl
theorem high4w (x : UInt32) (w : World) : Calls Tryd.prog 71 #[.int .u64 (n32 x), .int .i64 4] w fun e w' =>
    ∃ m, e = .returned (.slice (some ⟨w.heap.size, 0, none⟩) 4 4) ∧ w' = (w.alloc (.cells (u8s (beB x)) 5)).drewN m := by
  rw [← wide_fold, beB_def]
  exact high_any (wide x) 4 (by omega) (by omega) w
/-- a composite loaded out of the midst of a block -/
theorem run_loadAgg_part {P : Program} (n : Nat) (ty : TypeId) (hu : (match P.underlying ty with | some (.struct _) | some (.array _ _) => true | _ => false) = true)
    (hi : (P.info? ty).map (·.size) = some n) (w : World) (B : Nat) (A : Option Addr) (l : List UInt8) (hl : l.length = n) (h0 : 0 < n) (hr : Rd8 w B A l) :
    (loadAgg ty (.pointer A)).run P w = .ok (.value (.agg (u8s l))) w := by
  obtain ⟨g, o, rfl, _, hc⟩ := hr (by omega)
  obtain ⟨i, hi1, hs⟩ := Option.map_eq_some_iff.1 hi
  have hso : (sizeOf ty).run P w = .ok n w := by simp [sizeOf, typeInfo, hi1, hs]
  have hag : (isAgg ty).run P w = .ok true w := by
    cases hd : P.underlying ty with
    | none => simp [hd] at hu
    | some d => cases d <;> simp_all [isAgg, run_underlying hd]
  have hlc := run_loadCells_list (P := P) (w := w) ⟨g, o, none⟩ (u8v l) (fun j v hv => by
    have hj : j < l.length := by
      rcases Nat.lt_or_ge j l.length with h | h
      · exact h
      · rw [List.getElem?_eq_none (by rw [u8v_length]; exact h)] at hv; cases hv
    have e1 : (⟨g, o, none⟩ : Addr).add j = ⟨g, o + j, none⟩ := by unfold Addr.add; split <;> simp_all
    rw [e1, hc j hj, ← u8v_get l j hj]; exact hv)
  rw [u8v_length, hl] at hlc
  unfold loadAgg
  simp only [Sem.run_bind, Instr.loadAt, Instr.sureAddr, Sem.run_pure, Result.andThen_ok, loadVar, hag, if_true, hso, hlc]
  unfold u8s
  rfl
def lenOf : Value → Nat
  | .slice _ n _ => n
  | _ => 0
def KRes (w : World) (l : List UInt8) (e : Ending) (w' : World) : Prop := e = .returned (.agg (u8s l)) ∧ Below w.heap.size w w'
end Go.Proofs.YtopmdbmnlflpgaaDoor
