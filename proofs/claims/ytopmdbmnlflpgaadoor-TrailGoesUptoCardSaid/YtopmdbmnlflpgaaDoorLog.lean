/- Layer 2, the document's: a log that does not keep; a meter and a log whose counts are bounded only. -/
import Derived.Test.YtopmdbmnlflpgaaDoorMet
import Derived.Test.YtopmdbmnlflpgaaDoorRefDig
namespace Go.Proofs.YtopmdbmnlflpgaaDoor
open Go.RowKit
@[irreducible] def logC (n : Int) : Array Value := #[.bool false, .int .i64 n, .slice none 0 0]
theorem logC_def (n : Int) : logC n = #[.bool false, .int .i64 n, .slice none 0 0] := by unfold logC; rfl
/-- a log that does not keep, and has counted no more than N -/
def LogB (w : World) (r : Nat) (N : Int) : Prop := ∃ n : Int, 0 ≤ n ∧ n ≤ N ∧ RowIs w r (logC n)
theorem LogB.step {w w' : World} {r : Nat} {N : Int} (h : LogB w r N) (hb : Below w.heap.size w w') : LogB w' r N := by obtain ⟨n, h0, h1, h2⟩ := h; exact ⟨n, h0, h1, h2.step hb⟩
theorem LogB.upd {w w' : World} {r g : Nat} {N : Int} (h : LogB w r N) (hu : Upd g w w') (hg : r ≠ g) : LogB w' r N := by obtain ⟨n, h0, h1, h2⟩ := h; exact ⟨n, h0, h1, h2.upd hu hg⟩
theorem LogB.lt {w : World} {r : Nat} {N : Int} (h : LogB w r N) : r < w.heap.size := by obtain ⟨n, h0, h1, h2⟩ := h; exact h2.lt
theorem LogB.no8 {w : World} {r : Nat} {N : Int} (h : LogB w r N) : No8 w r := by obtain ⟨n, h0, h1, h2⟩ := h; exact no8_row h2 (by rw [logC_def]; simp)
/-- a meter that does not keep, and has counted no more than N -/
def MetB (w : World) (g : Nat) (N : Int) : Prop := ∃ n : Int, 0 ≤ n ∧ n ≤ N ∧ Met w g n false (.slice none 0 0)
theorem MetB.step {w w' : World} {r : Nat} {N : Int} (h : MetB w r N) (hb : Below w.heap.size w w') : MetB w' r N := by obtain ⟨n, h0, h1, h2⟩ := h; exact ⟨n, h0, h1, h2.step hb⟩
theorem MetB.upd {w w' : World} {r g : Nat} {N : Int} (h : MetB w r N) (hu : Upd g w w') (hg : r ≠ g) : MetB w' r N := by obtain ⟨n, h0, h1, h2⟩ := h; exact ⟨n, h0, h1, RowIs.upd h2 hu hg⟩
theorem MetB.lt {w : World} {r : Nat} {N : Int} (h : MetB w r N) : r < w.heap.size := by obtain ⟨n, h0, h1, h2⟩ := h; exact RowIs.lt h2
theorem MetB.no8 {w : World} {r : Nat} {N : Int} (h : MetB w r N) : No8 w r := by obtain ⟨n, h0, h1, h2⟩ := h; exact h2.no8 (by intro b; simp)
theorem MetB.env {w w' : World} {g : Nat} {N : Int} (h : MetB w g N) (he : ShaEnv w) (hu : Upd g w w') : ShaEnv w' := by obtain ⟨n, h0, h1, h2⟩ := h; exact he.upd h2 hu
theorem LogB.env {w w' : World} {r : Nat} {N : Int} (h : LogB w r N) (he : ShaEnv w) (hu : Upd r w w') : ShaEnv w' := by
  obtain ⟨n, h0, h1, h2⟩ := h
  have hc : w.cell? ⟨r, 0, none⟩ = some (.bool false) := by
    obtain ⟨t, ht⟩ := h2.row.heap
    rw [h2.has] at ht
    rw [cell_of_row _ _ _ _ t (0, 0) ht, logC_def]; rfl
  have hne : ∀ (k : Nat) (l : List UInt32), 0 < l.length → RowIs w k (u32s l) → k ≠ r := by
    rintro k l hl hk rfl
    have := hk.c32 0 hl
    rw [hc] at this
    cases this
  exact ⟨he.rounds.upd hu (hne _ _ (by rw [roundsL_length]; omega) he.rounds), he.start.upd hu (hne _ _ (by rw [startS_length]; omega) he.start)⟩
def MSum (g : Nat) (N : Int) (l : List UInt8) (w : World) (e : Ending) (w' : World) : Prop := e = .returned (.agg (u8s l)) ∧ MetB w' g N ∧ Upd g w w'
theorem msum_any (g : Nat) (N : Int) (vl : Value) (ls : List (List UInt8)) (w : World) (hm : MetB w g N) (hr : BsL w vl ls) (hl : ls.flatten.length ≤ 17592186044416) (he : ShaEnv w) (hN : N ≤ 4611686018427387904) :
    Calls Tryd.prog 26 #[.pointer (some ⟨g, 0, none⟩), vl] w (MSum g (N + 1) (shaB ls.flatten) w) := by
  obtain ⟨n, h0, h1, hm⟩ := hm
  refine (meterSum_any g n _ vl ls w hm (by intro b; simp) hr hl he (by omega) (by omega)).mono ?_
  rintro e w' ⟨rfl, h2, h3⟩
  exact ⟨rfl, ⟨n + 1, by omega, by omega, h2⟩, h3⟩
def LSum (r : Nat) (N : Int) (l : List UInt8) (w : World) (e : Ending) (w' : World) : Prop := e = .returned (.agg (u8s l)) ∧ LogB w' r N ∧ Upd r w w'
set_option maxRecDepth 100000 in
set_option maxHeartbeats 1600000 in
theorem lsum_any (r : Nat) (N : Int) (vb : Value) (b : List UInt8) (w : World) (hm : LogB w r N) (hvb : Bs w vb b) (hl : b.length ≤ 17592186044416) (hN : N ≤ 4611686018427387904) :
    Calls Tryd.prog 35 #[.pointer (some ⟨r, 0, none⟩), vb] w (LSum r (N + 1) (shaB b) w) := by
  obtain ⟨n, h0, h1, hR⟩ := hm
  have hrl := hR.lt
  have hn0 : (0 : Int) ≤ n + 1 := by omega
  have hn1 : (n : Int) + 1 ≤ (4611686018427387905 : Int) := by omega
  have cc : ∀ (w : World) (n : Int), RowIs w r (logC n) → w.cell? ⟨r, 0, none⟩ = some (.bool false) ∧ w.cell? ⟨r, 1, none⟩ = some (.int .i64 n) := by
    intro w n h2
    obtain ⟨t, ht⟩ := h2.row.heap
    rw [h2.has] at ht
    rw [cell_of_row _ _ _ _ t (0, 0) ht, cell_of_row _ _ _ _ t (0, 0) ht, logC_def]; exact ⟨rfl, rfl⟩
  obtain ⟨c0, c1⟩ := cc w n hR
  have fz := fun i => hR.fz i
  have hu : Upd r w ((w.setCell ⟨r, 1, none⟩ (.int .i64 (n + 1))).alloc (.cells (u8s (zeros 32)) 33)) := ((Upd.refl r w).put 1 _).then ((Below.refl _ _).alloc (Nat.le_refl _) _)
  have R0 : RowIs ((w.setCell ⟨r, 1, none⟩ (.int .i64 (n + 1))).alloc (.cells (u8s (zeros 32)) 33)) w.heap.size (u8s (zeros 32)) := RowIs.new' (by simp)
  have R1 : RowIs ((w.setCell ⟨r, 1, none⟩ (.int .i64 (n + 1))).alloc (.cells (u8s (zeros 32)) 33)) r (logC (n + 1)) := by
    have := (hR.put 1 (.int .i64 (n + 1))).alloc (.cells (u8s (zeros 32)) 33)
    rw [logC_def] at this ⊢
    simpa using this
  have hv := hvb.upd hu (LogB.no8 ⟨n, h0, h1, hR⟩)
  have hd := digest_any vb b _ hv hl
  obtain ⟨D, hD⟩ : ∃ D, D = shaB b := ⟨_, rfl⟩
  have hkl := shaB_length b
  rw [← hD] at hkl hd ⊢
  have HD := Lib.hid hd
  clear hD hd hv hvb cc
  go_enter Tryd.func35, Tryd.ntmps35
  go_wp2_with fail
  refine HD.out.mono ?_
  rintro e w3 ⟨rfl, hb3⟩
  have hne : w.heap.size ≠ r := by omega
  replace R0 := R0.step hb3
  replace R1 := R1.step hb3
  replace hu := hu.then hb3
  have R0h := R0.has; have R0r := R0.row; have R0l := R0.lt
  go_wp2_with fail
  refine bodyPost_retRow 4 _ w.heap.size 32 rfl rfl (by omega) (by kernel_rfl) (by kernel_rfl) ?_ rfl ?_
  · go_simp
  · go_simp
    exact ⟨rfl, ⟨n + 1, by omega, by omega, R1.set_ne (Ne.symm hne) _⟩, hu.setRow (Nat.le_refl _) _⟩
end Go.Proofs.YtopmdbmnlflpgaaDoor
