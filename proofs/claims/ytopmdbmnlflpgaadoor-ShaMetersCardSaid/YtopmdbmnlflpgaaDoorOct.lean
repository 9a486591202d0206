/- Layer 1 (octets), its bytes and numbers: what each call computes. -/
import Derived.Test.YtopmdbmnlflpgaaDoorFacts
import Derived.Deep.LoopGhost
namespace Go.Proofs.YtopmdbmnlflpgaaDoor
open Go.RowKit

def lowB (n : UInt64) (k : Nat) : List UInt8 := (List.range k).map (byteOf n)

set_option maxHeartbeats 400000 in
theorem low_any (n : UInt64) (k : Nat) (h1 : 1 ≤ k) (h8 : k ≤ 8) (w : World) :
    Calls Tryd.prog 93 #[.int .u64 (n64 n), .int .i64 k] w fun e w' =>
      e = .returned (.slice (some ⟨w.heap.size, 0, none⟩) k k) ∧ w' = w.alloc (.cells (u8s (lowB n k)) 5) := by
  have hmk : ∀ w, (Instr.makeSlice 27 (.int .i64 k) (.int .i64 k)).run Tryd.prog w = .ok (.slice (some ⟨w.heap.size, 0, none⟩) k k) (w.alloc (.cells (u8s (List.replicate k 0)) 5)) :=
    run_make8 Tryd.underlying27 Tryd.info8 k (by omega)
  have hk1 : (1 : Int) ≤ k := by omega
  have hk8 : (k : Int) ≤ 8 := by omega
  go_enter Tryd.func93, Tryd.ntmps93
  go_wp2
  go_loopw [16, 6] (fun i _ wr => ∃ (j : Nat) (l : List UInt8), j ≤ k ∧ i = .int .i64 j ∧ l.length = k ∧ wr = w.alloc (.cells (u8s l) 5) ∧ (∀ x, x < j → at8 l x = byteOf n x)) (fun i _ _ => k - (intOf i).toNat)
  case atStart => exact ⟨0, _, Nat.zero_le _, rfl, List.length_replicate, rfl, fun x hx => by omega⟩
  case round =>
    obtain ⟨j, l, hj, rfl, hl, rfl, hb⟩ := hrel
    by_cases hlt : j < k
    · go_wp2
      refine ⟨⟨j + 1, l.set j (byteOf n j), by omega, by go_num, by simp [hl], rfl, fun x hx => ?_⟩, by simp [intOf]; omega⟩
      rw [at8_set _ _ _ _ (by omega)]
      split
      · subst_vars; rfl
      · exact hb x (by omega)
    · go_wp2
      go_ret
      have e : j = k := by omega
      subst e
      exact ⟨rfl, by rw [ext8 hl hb]; rfl⟩

def ofLowK (l : List UInt8) : Nat → UInt64
  | 0 => 0
  | k + 1 => ofLowK l k ||| shl8 (at8 l k) k
theorem ofLowK_zero (l : List UInt8) : ofLowK l 0 = 0 := rfl
theorem ofLowK_succ (l : List UInt8) (k : Nat) : ofLowK l k ||| shl8 (at8 l k) k = ofLowK l (k + 1) := rfl

def OfLowSays (l : List UInt8) (w : World) (e : Ending) (w' : World) : Prop := e = .returned (.int .u64 (n64 (ofLowK l (min l.length 8)))) ∧ w = w'
def ofHighK (l : List UInt8) : Nat → UInt64
  | 0 => 0
  | k + 1 => (ofHighK l k <<< 8) ||| up8 (at8 l k)
theorem shl8_64 (x : UInt64) : IntKind.u64.wrap (n64 x * (256 : Int)) = n64 (x <<< 8) := by
  rw [wrap_u64, n64_def, n64_def, UInt64.toNat_shiftLeft, Nat.shiftLeft_eq]
  have : (8 : UInt64).toNat % 64 = 8 := by decide
  rw [this]; omega
theorem shl8_64' (x : UInt64) : n64 x * (256 : Int) % (18446744073709551616 : Int) = n64 (x <<< 8) := by rw [← shl8_64, wrap_u64]
theorem or_up8 (x : UInt64) (b : UInt8) : bits .or .u64 (n64 x) (n8 b) = n64 (x ||| up8 b) := by rw [← up8_fold, u64_or]
attribute [local go_sem] shl8_64 shl8_64' or_up8
def OfHighSays (l : List UInt8) (w : World) (e : Ending) (w' : World) : Prop := e = .returned (.int .u64 (n64 (ofHighK l (min l.length 8)))) ∧ w = w'
set_option maxHeartbeats 400000 in
theorem ofHigh_any (A : Option Addr) (c : Nat) (l : List UInt8) (hc : l.length ≤ c) (hm : l.length ≤ 140737488351232) (w : World) (hr : Rd8 w w.heap.size A l) :
    Calls Tryd.prog 90 #[.slice A l.length c] w (OfHighSays l w) := by
  have HR := Lib.hid hr; clear hr
  obtain ⟨m, hmn⟩ : ∃ m, m = min l.length 8 := ⟨_, rfl⟩
  have hmin : min (l.length : Int) 8 = (m : Int) := by omega
  have hm1 : m ≤ l.length := by omega
  have hm8 : (m : Int) ≤ 8 := by omega
  have HM := Lib.hid hmn; clear hmn
  go_enter Tryd.func90, Tryd.ntmps90
  go_wp2
  go_loop [3, 5, 12] (fun n _ i => ∃ k : Nat, k ≤ m ∧ i = .int .i64 k ∧ n = .int .u64 (n64 (ofHighK l k))) (fun _ _ i => m - (intOf i).toNat)
  case atStart => exact ⟨0, Nat.zero_le _, rfl, by rw [n64_def]; rfl⟩
  case round =>
    obtain ⟨k, hk, rfl, rfl⟩ := hrel
    by_cases hlt : k < m
    · obtain ⟨g, o, rfl, -, hcell⟩ := HR.out (by omega)
      have hck := hcell k (by omega)
      clear hcell
      go_wp2
      exact ⟨⟨k + 1, by omega, by go_num, rfl⟩, by simp [intOf]; omega⟩
    · go_wp2
      go_ret
      have e : k = m := by omega
      subst e
      exact ⟨by rw [← HM.out]; rfl, rfl⟩

def xorB (a b : List UInt8) : List UInt8 := (List.range (min a.length b.length)).map fun i => at8 a i ^^^ at8 b i
theorem xorB_zero {a b : List UInt8} (h : a.length = b.length) : (∀ i, i < a.length → at8 (xorB a b) i = 0) ↔ a = b := by
  have hm : ∀ i, i < a.length → at8 (xorB a b) i = at8 a i ^^^ at8 b i := fun i hi => at8_map _ _ (fun i => at8 a i ^^^ at8 b i) (by omega)
  constructor
  · intro hz
    refine ext8' h fun i hi => ?_
    have := hz i hi
    rw [hm i hi] at this
    exact UInt8.xor_eq_zero_iff.1 this
  · rintro rfl i hi
    rw [hm i hi]; simp
theorem xorB_length (a b : List UInt8) : (xorB a b).length = min a.length b.length := by simp [xorB]
/-- the bytes of a list, or'ed up to k -/
def orK (l : List UInt8) : Nat → UInt8
  | 0 => 0
  | k + 1 => orK l k ||| at8 l k
theorem orK_zero (l : List UInt8) (k : Nat) : orK l k = 0 ↔ ∀ i, i < k → at8 l i = 0 := by
  induction k with
  | zero => simp [orK]
  | succ k ih =>
    rw [orK, UInt8.or_eq_zero_iff, ih]
    constructor
    · rintro ⟨h1, h2⟩ i hi
      by_cases e : i = k
      · subst e; exact h2
      · exact h1 i (by omega)
    · intro h
      exact ⟨fun i hi => h i (by omega), h k (by omega)⟩
def SameSays (l1 l2 : List UInt8) (w : World) (e : Ending) (w' : World) : Prop := e = .returned (.bool (decide (l1 = l2))) ∧ Below w.heap.size w w'
end Go.Proofs.YtopmdbmnlflpgaaDoor
