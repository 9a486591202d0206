/- TrailPast: for any list of things to do. -/
import Derived.Test.YtopmdbmnlflpgaaDoorTPast
namespace Go.Proofs.YtopmdbmnlflpgaaDoor
open Go.RowKit
attribute [local go_sem] pastBuild rpastBuild
set_option maxRecDepth 100000 in
theorem walk_TrailPast (A : Option Addr) (c : Nat) (os : List POp) (w : World) (he : ShaEnv w) (hr : RdPo w w.heap.size A os) :
    Calls Tryd.prog 18 #[.slice A os.length c] w (TrueRes' w) := by
  by_cases h : os.length ≤ 100
  · exact trailpast_any A c os w he hr h
  · obtain ⟨n, hn⟩ : ∃ n, os.length = n := ⟨_, rfl⟩
    rw [hn] at h ⊢
    have hq : (100 : Int) < n := by omega
    clear hr hn h
    go_enter Tryd.func18, Tryd.ntmps18
    go_wp2_with fail
    refine (awake14_any w he).mono ?_
    rintro e w1 ⟨rfl, hb1⟩
    go_wp2_with fail
    go_ret
    exact ⟨rfl, (hb1.alloc hb1.size _).alloc (by have := hb1.size; simp; omega) _⟩
end Go.Proofs.YtopmdbmnlflpgaaDoor
