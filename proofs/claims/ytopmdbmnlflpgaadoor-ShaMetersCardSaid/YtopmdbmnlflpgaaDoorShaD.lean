/- Layer 2: what stands behind so many bytes. -/
import Derived.Test.YtopmdbmnlflpgaaDoorShaW
import Derived.Test.YtopmdbmnlflpgaaDoorNum
import Derived.Test.YtopmdbmnlflpgaaDoorJoin
import Derived.Test.YtopmdbmnlflpgaaDoorAppBs
import Derived.Deep.RegionWith
namespace Go.Proofs.YtopmdbmnlflpgaaDoor
open Go.RowKit
theorem high_bs (n : UInt64) (k : Nat) (h1 : 1 ≤ k) (h8 : k ≤ 8) (i : Int) (hi : i = k) (w : World) : Calls Tryd.prog 71 #[.int .u64 (n64 n), .int .i64 i] w (BsRes w (lowB n k).reverse) := by
  subst hi
  exact (high_res n k h1 h8 w).mono fun _ _ h => RdRes.bs h (by simp [lowB_length]; omega)
set_option maxRecDepth 100000 in
set_option maxHeartbeats 1600000 in
theorem pad_any (n : Nat) (hn : n ≤ 35184372088000) (w : World) :
    Calls Tryd.prog 21 #[.int .i64 n] w (BsRes w (padB n)) := by
  obtain ⟨z, hz⟩ : ∃ z, z = padZ n := ⟨_, rfl⟩
  obtain ⟨X, hX⟩ : ∃ X, X = UInt64.ofNat (8 * n) := ⟨_, rfl⟩
  have hz1 : ((119 : Int) - (n : Int) % (64 : Int)) % (64 : Int) = (z : Int) := by rw [hz]; unfold padZ; omega
  have hz2 : z < 64 := by rw [hz]; unfold padZ; omega
  have hn0 : (0 : Int) ≤ n := by omega
  have hw0 : IntKind.u64.wrap (n : Int) = n := by rw [wrap_u64]; omega
  have hw1 : ((n : Int) * (8 : Int)) % (18446744073709551616 : Int) = n64 X := by rw [hX, n64_def, UInt64.toNat_ofNat']; omega
  have hw2 : IntKind.u64.wrap ((n : Int) * (8 : Int)) = n64 X := by rw [wrap_u64]; exact hw1
  have hmk := run_make8 Tryd.underlying27 Tryd.info8 z (by omega)
  have hpad : padB n = [[128], List.replicate z 0, (lowB X 8).reverse].flatten := by rw [hz, hX]; simp [padB]
  have hpl : (padB n).length ≤ 100 := by rw [padB_length]; unfold padZ; omega
  obtain ⟨pb, hpb⟩ : ∃ pb, pb = padB n := ⟨_, rfl⟩
  rw [← hpb] at hpad hpl ⊢
  obtain ⟨hb, hhb⟩ : ∃ hb, hb = (lowB X 8).reverse := ⟨_, rfl⟩
  obtain ⟨zb, hzb⟩ : ∃ zb, zb = List.replicate z (0 : UInt8) := ⟨_, rfl⟩
  have hzl : zb.length = z := by rw [hzb]; simp
  rw [← hzb] at hmk
  rw [← hhb, ← hzb] at hpad
  have hhi := fun w => high_bs X 8 (by omega) (by omega) 8 rfl w
  rw [← hhb] at hhi
  have HH := Lib.hid hhi
  have HP := Lib.hid hpad
  have HZ := Lib.hid hzl
  clear hz hX hpb hhb hzb hhi hpad hzl
  go_enter Tryd.func21, Tryd.ntmps21
  go_wp2_with fail
  go_region_with (first | (go_at_call 71; refine (HH.out _).mono ?_; rintro e w1 ⟨v1, rfl, hv1, hb1⟩; have hv2 := hv1; obtain ⟨A1, c1, rfl, -, -, -⟩ := hv1; obtain ⟨q1, q2, q3⟩ := below_rules hb1; have hz := hb1.size; simp at hz; (try have z0 : w.heap.size < w1.heap.size := (by omega)); (try have z1 : w.heap.size + 1 < w1.heap.size := (by omega))) | (go_at_call 70; refine (concat_bs _ [[128], zb, hb] (by rw [← HP.out]; omega) _ (BsL.lit3 _ (by simp) (by exact Bs.one (i := 128) 128 (by go_simp) (by rw [n8_def]; rfl) (by first | omega | (simp; done) | (simp; omega))) (by exact Bs.row ⟨by go_simp, by go_simp⟩ z z HZ.out.symm (Nat.le_refl _) (by omega)) (by exact hv2.step (by repeat (first | with_reducible exact Below.refl _ _ | with_reducible assumption | refine Below.drew ?_ | refine below_drewN ?_ | refine Below.alloc ?_ (by first | omega | (simp; done) | (simp; omega)) _ | refine below_setRow ?_ (by omega) _ | refine Below.setCell ?_ (by first | omega | (simp; done) | (simp; omega)) _))))).mono ?_; rintro e w2 ⟨v2, rfl, hv3, hb2⟩))
  all_goals
    go_wp2_with fail
    go_ret
    exact ⟨v2, rfl, by rw [HP.out]; exact hv3, (Below.pred (w1 := w) (by repeat (first | with_reducible exact Below.refl _ _ | with_reducible assumption | refine Below.drew ?_ | refine below_drewN ?_ | refine Below.alloc ?_ (by first | omega | (simp; done) | (simp; omega)) _ | refine below_setRow ?_ (by omega) _ | refine Below.setCell ?_ (by first | omega | (simp; done) | (simp; omega)) _)) hb1).trans ((Below.pred (w1 := w1) (by repeat (first | with_reducible exact Below.refl _ _ | with_reducible assumption | refine Below.drew ?_ | refine below_drewN ?_ | refine Below.alloc ?_ (by first | omega | (simp; done) | (simp; omega)) _ | refine below_setRow ?_ (by omega) _ | refine Below.setCell ?_ (by first | omega | (simp; done) | (simp; omega)) _)) hb2).mono (by omega))⟩
end Go.Proofs.YtopmdbmnlflpgaaDoor
