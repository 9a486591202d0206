/- Layer 11: a device as a plain value, and what is done to it. No program. -/
import Derived.Test.YtbfloejpgjheiaaPart
namespace Go.Proofs.Ytbfloejpgjheiaa
open Go.RowKit
/-- what is read, what is sure, what is pending, how many things are still done (below 0: all), and whether it is down -/
structure Dv where
  n : Nat
  seen : List UInt8
  sure : List UInt8
  pend : List (Nat × List UInt8)
  fuse : Int
  down : Bool
@[irreducible] def full (b : List UInt8) : List UInt8 := b ++ List.replicate (256 - b.length) 0
theorem full_def (b : List UInt8) : full b = b ++ List.replicate (256 - b.length) 0 := by unfold full; rfl
theorem full_length (b : List UInt8) (h : b.length ≤ 256) : (full b).length = 256 := by rw [full_def, List.length_append, List.length_replicate]; omega
/-- sector number i -/
@[irreducible] def sect (l : List UInt8) (i : Nat) : List UInt8 := (l.drop (256 * i)).take 256
theorem sect_def (l : List UInt8) (i : Nat) : sect l i = (l.drop (256 * i)).take 256 := by unfold sect; rfl
theorem sect_length (l : List UInt8) (i n : Nat) (hl : l.length = 256 * n) (hi : i < n) : (sect l i).length = 256 := by rw [sect_def, List.length_take, List.length_drop]; omega
structure Dv.Ok (d : Dv) : Prop where
  n1 : 1 ≤ d.n
  n6 : d.n ≤ 600
  seen : d.seen.length = 256 * d.n
  sure : d.sure.length = 256 * d.n
  pend : ∀ p ∈ d.pend, p.1 < d.n ∧ p.2.length = 256
  lo : -9223372036854775808 ≤ d.fuse
  hi : d.fuse ≤ 9223372036854775807
namespace Dv
def new (n : Nat) : Dv := ⟨n, List.replicate (256 * n) 0, List.replicate (256 * n) 0, [], -1, false⟩
theorem new_ok (n : Nat) (h1 : 1 ≤ n) (h6 : n ≤ 600) : (new n).Ok := ⟨h1, h6, by simp [new], by simp [new], fun p hp => by simp [new] at hp, by simp [new], by simp [new]⟩
/-- one thing more is asked for -/
def tick (d : Dv) : Dv := { d with fuse := if 0 < d.fuse then d.fuse - 1 else d.fuse, down := if d.fuse = 0 then true else d.down }
theorem tick_ok {d : Dv} (h : d.Ok) : d.tick.Ok := ⟨h.n1, h.n6, h.seen, h.sure, h.pend, by have := h.lo; simp only [tick]; split <;> omega, by have := h.hi; simp only [tick]; split <;> omega⟩
/-- what a write answers, and makes -/
def errW (d : Dv) (i : Int) (b : List UInt8) : Int := if i < 0 ∨ (d.n : Int) ≤ i then 60 else if 256 < b.length then 2 else if d.tick.down = true then 61 else 0
def write (d : Dv) (i : Int) (b : List UInt8) : Dv := if i < 0 ∨ (d.n : Int) ≤ i then d else if 256 < b.length then d else if d.tick.down = true then d.tick
  else { d.tick with seen := spl d.seen (256 * i.toNat) (full b), pend := d.pend ++ [(i.toNat, full b)] }
theorem write_sector {d : Dv} {i : Int} {b : List UInt8} (h : i < 0 ∨ (d.n : Int) ≤ i) : d.write i b = d ∧ d.errW i b = 60 := by unfold write errW; simp [h]
theorem write_long {d : Dv} {i : Int} {b : List UInt8} (h : ¬ (i < 0 ∨ (d.n : Int) ≤ i)) (hb : 256 < b.length) : d.write i b = d ∧ d.errW i b = 2 := by unfold write errW; simp [h, hb]
theorem write_down {d : Dv} {i : Int} {b : List UInt8} (h : ¬ (i < 0 ∨ (d.n : Int) ≤ i)) (hb : ¬ 256 < b.length) (hd : d.tick.down = true) : d.write i b = d.tick ∧ d.errW i b = 61 := by unfold write errW; simp [h, hb, hd]
theorem write_done {d : Dv} {i : Int} {b : List UInt8} (h : ¬ (i < 0 ∨ (d.n : Int) ≤ i)) (hb : ¬ 256 < b.length) (hd : ¬ d.tick.down = true) :
    d.write i b = { d.tick with seen := spl d.seen (256 * i.toNat) (full b), pend := d.pend ++ [(i.toNat, full b)] } ∧ d.errW i b = 0 := by unfold write errW; simp [h, hb, hd]
def errS (d : Dv) : Int := if d.tick.down = true then 61 else 0
def sync (d : Dv) : Dv := if d.tick.down = true then d.tick else { d.tick with sure := d.seen, pend := [] }
/-- the pending writes that are picked, one by one -/
def keepK (pend : List (Nat × List UInt8)) (keep : List Bool) (s : List UInt8) : Nat → List UInt8
  | 0 => s
  | k + 1 => if keep.getD k false = true then spl (keepK pend keep s k) (256 * (pend.getD k (0, [])).1) (pend.getD k (0, [])).2 else keepK pend keep s k
def crash (d : Dv) (keep : List Bool) : Dv := { d with sure := keepK d.pend keep d.sure d.pend.length, seen := keepK d.pend keep d.sure d.pend.length, pend := [], fuse := -1, down := false }
def setFuse (d : Dv) (n : Int) : Dv := { d with fuse := n }
theorem pend_at {d : Dv} (h : d.Ok) (k : Nat) (hk : k < d.pend.length) : (d.pend.getD k (0, [])).1 < d.n ∧ (d.pend.getD k (0, [])).2.length = 256 := by
  have : d.pend.getD k (0, []) = d.pend[k] := by simp [List.getD, hk]
  rw [this]; exact h.pend _ (List.getElem_mem hk)
theorem keepK_length {d : Dv} (h : d.Ok) (keep : List Bool) : ∀ k, k ≤ d.pend.length → (keepK d.pend keep d.sure k).length = 256 * d.n
  | 0, _ => h.sure
  | k + 1, hk => by
    have ih := keepK_length h keep k (by omega)
    have hp := pend_at h k (by omega)
    unfold keepK
    split
    · rw [spl_length _ _ _ (by rw [ih, hp.2]; omega)]; exact ih
    · exact ih
theorem write_ok {d : Dv} (h : d.Ok) (i : Int) (b : List UInt8) : (d.write i b).Ok := by
  by_cases h1 : i < 0 ∨ (d.n : Int) ≤ i
  · rw [(write_sector h1).1]; exact h
  · by_cases h2 : 256 < b.length
    · rw [(write_long h1 h2).1]; exact h
    · by_cases h3 : d.tick.down = true
      · rw [(write_down h1 h2 h3).1]; exact tick_ok h
      · rw [(write_done h1 h2 h3).1]
        have ht := tick_ok h
        refine ⟨h.n1, h.n6, ?_, h.sure, ?_, ht.lo, ht.hi⟩
        · show (spl d.seen (256 * i.toNat) (full b)).length = 256 * d.n
          have hf := full_length b (by omega)
          rw [spl_length _ _ _ (by rw [h.seen, hf]; omega)]; exact h.seen
        · intro p hp
          rcases List.mem_append.1 hp with hp | hp
          · exact h.pend p hp
          · rw [List.mem_singleton.1 hp]; exact ⟨by show i.toNat < d.n; omega, full_length b (by omega)⟩
theorem sync_ok {d : Dv} (h : d.Ok) : d.sync.Ok := by
  have ht := tick_ok h
  unfold sync
  split
  · exact ht
  · exact ⟨h.n1, h.n6, h.seen, h.seen, fun p hp => by simp at hp, ht.lo, ht.hi⟩
theorem crash_ok {d : Dv} (h : d.Ok) (keep : List Bool) : (d.crash keep).Ok :=
  ⟨h.n1, h.n6, keepK_length h keep _ (Nat.le_refl _), keepK_length h keep _ (Nat.le_refl _), fun p hp => by simp [crash] at hp, by simp [crash], by simp [crash]⟩
theorem setFuse_ok {d : Dv} (h : d.Ok) (n : Int) (h1 : -9223372036854775808 ≤ n) (h2 : n ≤ 9223372036854775807) : (d.setFuse n).Ok := ⟨h.n1, h.n6, h.seen, h.sure, h.pend, h1, h2⟩
theorem write_n {d : Dv} (i : Int) (b : List UInt8) : (d.write i b).n = d.n := by unfold write; split <;> (try split) <;> (try split) <;> rfl
theorem sync_n {d : Dv} : d.sync.n = d.n := by unfold sync; split <;> rfl
theorem write_pend {d : Dv} (i : Int) (b : List UInt8) : (d.write i b).pend.length ≤ d.pend.length + 1 := by
  unfold write
  split
  · omega
  · split
    · omega
    · split
      · exact Nat.le_succ _
      · simp
theorem sync_pend {d : Dv} : d.sync.pend.length ≤ d.pend.length := by unfold sync; split <;> simp [tick]
end Dv
end Go.Proofs.Ytbfloejpgjheiaa
