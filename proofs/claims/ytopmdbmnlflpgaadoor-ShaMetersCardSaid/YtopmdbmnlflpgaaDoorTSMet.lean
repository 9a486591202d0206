/- ShaMeters: every input. -/
import Derived.Test.YtopmdbmnlflpgaaDoorSMet
namespace Go.Proofs.YtopmdbmnlflpgaaDoor
open Go.RowKit
set_option maxRecDepth 100000 in
set_option maxHeartbeats 1600000 in
theorem shameters_early (A : Option Addr) (c n : Nat) (kp : Bool) (w : World) (he : ShaEnv w) (hbad : 12 < n) :
    Calls Tryd.prog 11 #[.slice A n c, .bool kp] w (TrueRes' w) := by
  have i1 : (12 : Int) < n := by omega
  clear hbad
  go_enter Tryd.func11, Tryd.ntmps11
  go_wp2_with fail
  refine (awake_any _ he).mono ?_
  rintro e w1 ⟨rfl, hb⟩
  go_wp2_with fail
  go_ret
  exact ⟨rfl, hb⟩
theorem walk_ShaMeters (A : Option Addr) (c : Nat) (ls : List (List UInt8)) (kp : Bool) (w : World) (he : ShaEnv w) (hc : ls.length ≤ c) (hr : RdLm w w.heap.size A ls) :
    Calls Tryd.prog 11 #[.slice A ls.length c, .bool kp] w (TrueRes' w) := by
  by_cases h : ls.length ≤ 12
  · exact shameters_any A c ls kp w he hc hr h
  · exact shameters_early A c ls.length kp w he (by omega)
end Go.Proofs.YtopmdbmnlflpgaaDoor
