/- ShaParts: every input. -/
import Derived.Test.YtopmdbmnlflpgaaDoorSParts
namespace Go.Proofs.YtopmdbmnlflpgaaDoor
open Go.RowKit
set_option maxRecDepth 100000 in
set_option maxHeartbeats 1600000 in
theorem shaparts_early (A : Option Addr) (c n : Nat) (x y : Int) (w : World) (he : ShaEnv w) (hbad : 500 < n ∨ x < 0 ∨ y < x ∨ (n : Int) < y) :
    Calls Tryd.prog 12 #[.slice A n c, .int .i64 x, .int .i64 y] w (TrueRes' w) := by
  by_cases q1 : 500 < n
  · have i1 : (500 : Int) < n := by omega
    clear hbad
    go_enter Tryd.func12, Tryd.ntmps12
    go_wp2_with fail
    refine (awake_any _ he).mono ?_
    rintro e w1 ⟨rfl, hb⟩
    go_wp2_with fail
    go_ret
    exact ⟨rfl, hb⟩
  · have i1 : ¬ (500 : Int) < n := by omega
    by_cases q2 : x < 0
    · clear hbad
      go_enter Tryd.func12, Tryd.ntmps12
      go_wp2_with fail
      refine (awake_any _ he).mono ?_
      rintro e w1 ⟨rfl, hb⟩
      go_wp2_with fail
      go_ret
      exact ⟨rfl, hb⟩
    · by_cases q3 : y < x
      · clear hbad
        go_enter Tryd.func12, Tryd.ntmps12
        go_wp2_with fail
        refine (awake_any _ he).mono ?_
        rintro e w1 ⟨rfl, hb⟩
        go_wp2_with fail
        go_ret
        exact ⟨rfl, hb⟩
      · have q4 : (n : Int) < y := by omega
        clear hbad
        go_enter Tryd.func12, Tryd.ntmps12
        go_wp2_with fail
        refine (awake_any _ he).mono ?_
        rintro e w1 ⟨rfl, hb⟩
        go_wp2_with fail
        go_ret
        exact ⟨rfl, hb⟩
theorem walk_ShaParts (A : Option Addr) (c : Nat) (b : List UInt8) (x y : Int) (w : World) (he : ShaEnv w) (hc : b.length ≤ c) (hr : Rd8 w w.heap.size A b) (_ : -9223372036854775808 ≤ x) (_ : x ≤ 9223372036854775807) (_ : -9223372036854775808 ≤ y) (_ : y ≤ 9223372036854775807) :
    Calls Tryd.prog 12 #[.slice A b.length c, .int .i64 x, .int .i64 y] w (TrueRes' w) := by
  by_cases h : b.length ≤ 500 ∧ 0 ≤ x ∧ x ≤ y ∧ y ≤ b.length
  · obtain ⟨h1, h2, h3, h4⟩ := h
    obtain ⟨k, rfl⟩ := Int.eq_ofNat_of_zero_le h2
    obtain ⟨m, rfl⟩ := Int.eq_ofNat_of_zero_le (show 0 ≤ y by omega)
    exact shaparts_any A c b k m w he (Bs.of hc (by omega) hr) h1 (by omega) (by omega)
  · exact shaparts_early A c b.length x y w he (by omega)
end Go.Proofs.YtopmdbmnlflpgaaDoor
