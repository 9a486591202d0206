/- mac.Expand: what it refuses, and nothing. -/
import Derived.Test.YtopmdbmnlflpgaaDoorExpN
namespace Go.Proofs.YtopmdbmnlflpgaaDoor
open Go.RowKit
def ExpdNone (c : Int) (w : World) (e : Ending) (w' : World) : Prop := e = .returned (.tuple #[.slice none 0 0, .int .i64 c]) ∧ Below w.heap.size w w'
set_option maxRecDepth 100000 in
theorem expand_none (g : Nat) (key : List UInt8) (hkey : key.length = 32) (A : Option Addr) (ni c : Nat) (n : Int) (h : n < 0 ∨ 8160 < n) (w : World) :
    Calls Tryd.prog 30 #[.pointer (some ⟨g, 0, none⟩), .agg (u8s key), .slice A ni c, .int .i64 n] w (ExpdNone 1 w) := by
  by_cases h0 : n < 0
  · go_enter Tryd.func30, Tryd.ntmps30
    go_wp2_with fail
    refine bodyPost_ret (results_tmp2 rfl _ _ _) rfl ?_
    exact ⟨rfl, (by repeat (first | with_reducible exact Below.refl _ _ | with_reducible assumption | refine Below.drew ?_ | refine below_drewN ?_ | refine Below.alloc ?_ (by first | omega | (simp; done) | (simp; omega)) _ | refine below_setRow ?_ (by omega) _ | refine Below.setCell ?_ (by first | omega | (simp; done) | (simp; omega)) _))⟩
  · have h1 : 8160 < n := by omega
    go_enter Tryd.func30, Tryd.ntmps30
    go_wp2_with fail
    refine bodyPost_ret (results_tmp2 rfl _ _ _) rfl ?_
    exact ⟨rfl, (by repeat (first | with_reducible exact Below.refl _ _ | with_reducible assumption | refine Below.drew ?_ | refine below_drewN ?_ | refine Below.alloc ?_ (by first | omega | (simp; done) | (simp; omega)) _ | refine below_setRow ?_ (by omega) _ | refine Below.setCell ?_ (by first | omega | (simp; done) | (simp; omega)) _))⟩
set_option maxRecDepth 100000 in
theorem expand_zero (g : Nat) (key : List UInt8) (hkey : key.length = 32) (A : Option Addr) (ni c : Nat) (w : World) :
    Calls Tryd.prog 30 #[.pointer (some ⟨g, 0, none⟩), .agg (u8s key), .slice A ni c, .int .i64 0] w (ExpdNone 0 w) := by
  go_enter Tryd.func30, Tryd.ntmps30
  go_wp2_with fail
  refine bodyPost_ret (results_tmp2 rfl _ _ _) rfl ?_
  exact ⟨rfl, (by repeat (first | with_reducible exact Below.refl _ _ | with_reducible assumption | refine Below.drew ?_ | refine below_drewN ?_ | refine Below.alloc ?_ (by first | omega | (simp; done) | (simp; omega)) _ | refine below_setRow ?_ (by omega) _ | refine Below.setCell ?_ (by first | omega | (simp; done) | (simp; omega)) _))⟩
end Go.Proofs.YtopmdbmnlflpgaaDoor
