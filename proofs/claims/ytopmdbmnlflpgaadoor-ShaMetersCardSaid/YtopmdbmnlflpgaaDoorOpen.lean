/- What an argument of a statement is, in the words of this seat's walks. -/
import Derived.Test.YtopmdbmnlflpgaaDoorBase
import Derived.ProofKit
import Derived.OpenShut
namespace Go.Proofs.YtopmdbmnlflpgaaDoor
open Go.ChangeShapes Go.WideShapes Go.ChangeAt Go.RowKit
section
variable {P : Program} {H : Type} {enc : TypeId × Value → H} {w : World} {base : Nat} {spare : Nat → Bool} {held : Bool} {r : Reach} {b0 : Nat} {t e : TypeId} {v : Value} {d : DataW H} {ps : List MemPlace}

theorem wf8 {a : Int} (h : (Lit.int .u8 a).wf = true) : ∃ n : UInt8, a = n8 n := by
  have hb := bounds_u8 h
  exact ⟨UInt8.ofNat a.toNat, (n8_of a (by omega) (by omega)).symm⟩
theorem wf32 {a : Int} (h : (Lit.int .u32 a).wf = true) : ∃ n : UInt32, a = n32 n := by
  have hb := bounds_u32 h
  exact ⟨UInt32.ofNat a.toNat, (n32_of a (by omega) (by omega)).symm⟩
theorem wf64 {a : Int} (h : (Lit.int .u64 a).wf = true) : ∃ n : UInt64, a = n64 n := by
  have hb := bounds_u64 h
  exact ⟨UInt64.ofNat a.toNat, (n64_of a (by omega) (by omega)).symm⟩
theorem arg_u64 (ht : P.underlying t = some (.int .u64)) (hval : Value.okWide P w r b0 t v) (hd : DataW.Trod enc P w base spare held t v d ps) : ∃ n : UInt64, v = .int .u64 (n64 n) := by
  obtain ⟨a, rfl, _, _, hw⟩ := open_int ht hval hd
  obtain ⟨n, rfl⟩ := wf64 hw
  exact ⟨n, rfl⟩
theorem arg_u32 (ht : P.underlying t = some (.int .u32)) (hval : Value.okWide P w r b0 t v) (hd : DataW.Trod enc P w base spare held t v d ps) : ∃ n : UInt32, v = .int .u32 (n32 n) := by
  obtain ⟨a, rfl, _, _, hw⟩ := open_int ht hval hd
  obtain ⟨n, rfl⟩ := wf32 hw
  exact ⟨n, rfl⟩
theorem arg_int (ht : P.underlying t = some (.int .i64)) (hval : Value.okWide P w r b0 t v) (hd : DataW.Trod enc P w base spare held t v d ps) : ∃ a : Int, v = .int .i64 a ∧ -9223372036854775808 ≤ a ∧ a ≤ 9223372036854775807 := by
  obtain ⟨a, rfl, _, _, hw⟩ := open_int ht hval hd
  have hb := bounds_i64 hw
  exact ⟨a, rfl, by omega, by omega⟩
theorem arg_bool (ht : P.underlying t = some .bool) (hval : Value.okWide P w r b0 t v) : ∃ b : Bool, v = .bool b := okWide_bool ht hval
theorem arg_string (ht : P.underlying t = some .string) (hval : Value.okWide P w r b0 t v) : ∃ l : List UInt8, v = .string ⟨l.toArray⟩ := by
  obtain ⟨s, rfl⟩ := okWide_string ht hval
  exact ⟨s.data.toList, by cases s; simp⟩
theorem add_at {a : Addr} (i : Nat) (h : a.spot = none) : a.add i = ⟨a.block, a.off + i, none⟩ := by
  unfold Addr.add
  split
  · subst_vars; cases a; simp_all
  · rfl
theorem spot_none {a : Addr} {u : Value} (h : w.cell? a = some u) : a.spot = none := by
  unfold World.cell? at h
  split at h
  · split at h
    · cases h
    · rename_i hs; simpa using hs
  · cases h
theorem arg_bytes (ht : P.underlying t = some (.slice e)) (he : P.underlying e = some (.int .u8)) (hc : P.cellsOf e = 1) (hval : Value.okWide P w r b0 t v) (hd : DataW.Trod enc P w base spare held t v d ps) :
    ∃ A c l, v = .slice A (List.length l) c ∧ l.length ≤ c ∧ Rd8 w w.heap.size A l := by
  obtain ⟨a, n, c, rfl⟩ := okWide_slice ht hval
  obtain ⟨fuel, hf⟩ := hd
  rcases open_ints ht he hc hf with ⟨hcs, _⟩ | ⟨x, len, cap, zs, hcs, _, hl, _, hz, _, hcell, hwz⟩
  · simp [Value.cells] at hcs
    obtain ⟨rfl, rfl, rfl⟩ := hcs
    exact ⟨none, 0, [], rfl, Nat.le_refl _, Rd8.nil _ _ _⟩
  · simp [Value.cells] at hcs
    obtain ⟨rfl, rfl, rfl⟩ := hcs
    have hlen : n ≤ zs.length := by rw [hz]; split <;> omega
    refine ⟨some x, c, (zs.take n).map fun z => UInt8.ofNat z.toNat, by simp [Nat.min_eq_left hlen], by simp [Nat.min_eq_left hlen]; exact hl, ?_⟩
    intro hn
    simp only [List.length_map, List.length_take, Nat.min_eq_left hlen] at hn
    have h0 := hcell 0 (by omega)
    have hs : x.spot = none := by
      have e0 : x.add 0 = x := by simp [Addr.add]
      rw [e0] at h0; exact spot_none h0
    refine ⟨x.block, x.off, by cases x; simp_all, ?_, fun i hi => ?_⟩
    · have := World.block_lt_of_cell? w _ h0
      rw [add_at 0 hs] at this; exact this
    · simp only [List.length_map, List.length_take, Nat.min_eq_left hlen] at hi
      have hci := hcell i (by omega)
      rw [add_at i hs] at hci
      rw [hci, at8_get _ i (by simp; omega)]
      simp only [List.getElem_map, List.getElem_take]
      have hmem : zs[i]'(by omega) ∈ zs := List.getElem_mem _
      have hb := bounds_u8 (hwz _ hmem)
      rw [n8_of _ (by omega) (by omega)]
      simp [List.getD, show i < zs.length by omega]

/-- what every statement comes to -/
def TrueRes (w : World) (e : Ending) (w' : World) : Prop := e = .returned (.bool true) ∧ Below w.heap.size w w'
end
end Go.Proofs.YtopmdbmnlflpgaaDoor
