/- Small words that all walks of this seat use: whole numbers of fixed width, rows of cells, whole arrays in and out of memory. -/
import Derived.WalkKit
import Derived.WalkSpells
import Derived.WalkLawsBesides
import Derived.StillTailTactics
import Derived.LoopN
import Derived.Lib.Hide
import Derived.Lib.MinMax
import Derived.Outline
import Derived.BigQuiet
import Derived.Deep.WholeRow
import Derived.Deep.AppendLies
import Derived.Deep.RegionHeld3
import Derived.Deep.DrawnRows
import Derived.Laws.Tables
import Derived.Deep.QuietTactic
namespace Go.Proofs.YtopmdbmnlflpgaaDoor
open Go.RowKit

/-! ### whole numbers of fixed width, and rows of them -/

/-! #### UInt8 -/
@[irreducible] def n8 (u : UInt8) : Int := u.toNat
theorem n8_def (u : UInt8) : n8 u = u.toNat := by unfold n8; rfl
theorem n8_lt (x : UInt8) : n8 x < 256 := by have := x.toNat_lt; rw [n8_def]; omega
theorem n8_ge (x : UInt8) : 0 ≤ n8 x := by rw [n8_def]; omega
theorem n8_inj {x y : UInt8} (h : n8 x = n8 y) : x = y := by
  rw [n8_def, n8_def] at h; exact UInt8.toNat_inj.1 (by omega)
theorem n8_eq (x y : UInt8) : (n8 x = n8 y) = (x = y) := propext ⟨n8_inj, fun h => by rw [h]⟩
theorem n8_beq (x y : UInt8) : (n8 x == n8 y) = (x == y) := by
  rw [Bool.eq_iff_iff, beq_iff_eq, beq_iff_eq, n8_eq]
theorem n8_lt_iff (x y : UInt8) : (n8 x < n8 y) = (x < y) := by
  rw [n8_def, n8_def, UInt8.lt_iff_toNat_lt]; exact propext ⟨fun h => by omega, fun h => by omega⟩
theorem n8_of (n : Int) (h0 : 0 ≤ n) (h1 : n < 256) : n8 (UInt8.ofNat n.toNat) = n := by
  rw [n8_def, UInt8.toNat_ofNat']; omega
theorem wrap_u8 (n : Int) : IntKind.u8.wrap n = n % 256 := by simp [IntKind.wrap, IntKind.bits, IntKind.signed]
theorem u8_add (x y : UInt8) : IntKind.u8.wrap (n8 x + n8 y) = n8 (x + y) := by
  simp only [wrap_u8, n8_def, UInt8.toNat_add]; omega
theorem u8_add' (x y : UInt8) : (n8 x + n8 y) % 256 = n8 (x + y) := by
  simp only [n8_def, UInt8.toNat_add]; omega
theorem u8_mod (x : UInt8) : n8 x % 256 = n8 x := by
  have := n8_lt x; have := n8_ge x; omega
theorem bits_u8 (op : BinOp) (x y : UInt8) (z : BitVec 8) (h : (match op with
    | .and => x.toBitVec &&& y.toBitVec
    | .or => x.toBitVec ||| y.toBitVec
    | .xor => x.toBitVec ^^^ y.toBitVec
    | _ => x.toBitVec &&& ~~~y.toBitVec) = z) : bits op .u8 (n8 x) (n8 y) = (z.toNat : Int) := by
  have hx : BitVec.ofInt 8 (n8 x) = x.toBitVec := by
    apply BitVec.eq_of_toNat_eq; simp [n8_def]
  have hy : BitVec.ofInt 8 (n8 y) = y.toBitVec := by
    apply BitVec.eq_of_toNat_eq; simp [n8_def]
  subst h
  unfold bits
  rw [show IntKind.u8.bits = 8 from rfl, hx, hy, wrap_u8]
  have hz : ∀ z : BitVec 8, ((z.toNat : Int)) % 256 = (z.toNat : Int) := fun z => by have := z.isLt; omega
  exact hz _
theorem u8_xor (x y : UInt8) : bits .xor .u8 (n8 x) (n8 y) = n8 (x ^^^ y) := (bits_u8 .xor x y _ rfl).trans (n8_def _).symm
theorem u8_or (x y : UInt8) : bits .or .u8 (n8 x) (n8 y) = n8 (x ||| y) := (bits_u8 .or x y _ rfl).trans (n8_def _).symm
theorem u8_and (x y : UInt8) : bits .and .u8 (n8 x) (n8 y) = n8 (x &&& y) := (bits_u8 .and x y _ rfl).trans (n8_def _).symm
attribute [go_sem] u8_add u8_add' u8_xor u8_or u8_and u8_mod n8_ge
@[irreducible] def at8 (l : List UInt8) (i : Nat) : UInt8 := l.getD i 0
theorem at8_def (l : List UInt8) (i : Nat) : at8 l i = l.getD i 0 := by unfold at8; rfl
theorem at8_get (l : List UInt8) (i : Nat) (h : i < l.length) : at8 l i = l[i] := by rw [at8_def]; simp [h]
@[irreducible] def u8v (l : List UInt8) : List Value := l.map fun u => Value.int .u8 (n8 u)
theorem u8v_def (l : List UInt8) : u8v l = l.map fun u => Value.int .u8 (n8 u) := by unfold u8v; rfl
@[irreducible] def u8s (l : List UInt8) : Array Value := (u8v l).toArray
theorem u8s_def (l : List UInt8) : u8s l = (l.map fun u => Value.int .u8 (n8 u)).toArray := by unfold u8s; rw [u8v_def]
theorem u8s_toList (l : List UInt8) : (u8s l).toList = u8v l := by unfold u8s; rfl
theorem u8s_get (l : List UInt8) (i : Nat) (h : i < l.length) : (u8s l)[i]? = some (.int .u8 (n8 (at8 l i))) := by
  simp [u8s_def, h, at8_def, List.getD]
theorem u8v_get (l : List UInt8) (i : Nat) (h : i < l.length) : (u8v l)[i]? = some (.int .u8 (n8 (at8 l i))) := by
  simp [u8v_def, h, at8_def, List.getD]
theorem u8s_set (l : List UInt8) (i : Nat) (u : UInt8) : (u8s l).setIfInBounds i (.int .u8 (n8 u)) = u8s (l.set i u) := by
  simp [u8s_def, List.map_set]
theorem u8s_size (l : List UInt8) : (u8s l).size = l.length := by simp [u8s_def]
theorem u8v_length (l : List UInt8) : (u8v l).length = l.length := by simp [u8v_def]
theorem u8s_size_eq (l : List UInt8) (n : Nat) : ((u8s l).size = n) = (l.length = n) := by rw [u8s_size]
theorem u8s_one (l : List UInt8) : (u8s l).all (·.oneCell') = true := by simp [u8s_def, Value.oneCell']
theorem u8v_one (l : List UInt8) : ∀ u ∈ u8v l, u.oneCell' = true := by
  intro u hu
  rw [u8v_def] at hu
  obtain ⟨x, _, rfl⟩ := List.mem_map.1 hu
  rfl
theorem u8v_append (l m : List UInt8) : u8v l ++ u8v m = u8v (l ++ m) := by simp [u8v_def]
attribute [go_sem] u8s_get u8s_set u8s_size_eq u8s_one
theorem u8v_inj {l m : List UInt8} (h : u8v l = u8v m) : l = m := by
  rw [u8v_def, u8v_def] at h
  refine List.map_inj_right (f := fun u => Value.int .u8 (n8 u)) ?_ |>.1 h
  intro x y hxy
  injection hxy with _ h2
  exact n8_inj h2

/-! #### UInt32 -/
@[irreducible] def n32 (u : UInt32) : Int := u.toNat
theorem n32_def (u : UInt32) : n32 u = u.toNat := by unfold n32; rfl
theorem n32_lt (x : UInt32) : n32 x < 4294967296 := by have := x.toNat_lt; rw [n32_def]; omega
theorem n32_ge (x : UInt32) : 0 ≤ n32 x := by rw [n32_def]; omega
theorem n32_inj {x y : UInt32} (h : n32 x = n32 y) : x = y := by
  rw [n32_def, n32_def] at h; exact UInt32.toNat_inj.1 (by omega)
theorem n32_eq (x y : UInt32) : (n32 x = n32 y) = (x = y) := propext ⟨n32_inj, fun h => by rw [h]⟩
theorem n32_beq (x y : UInt32) : (n32 x == n32 y) = (x == y) := by
  rw [Bool.eq_iff_iff, beq_iff_eq, beq_iff_eq, n32_eq]
theorem n32_lt_iff (x y : UInt32) : (n32 x < n32 y) = (x < y) := by
  rw [n32_def, n32_def, UInt32.lt_iff_toNat_lt]; exact propext ⟨fun h => by omega, fun h => by omega⟩
theorem n32_of (n : Int) (h0 : 0 ≤ n) (h1 : n < 4294967296) : n32 (UInt32.ofNat n.toNat) = n := by
  rw [n32_def, UInt32.toNat_ofNat']; omega
theorem wrap_u32 (n : Int) : IntKind.u32.wrap n = n % 4294967296 := by simp [IntKind.wrap, IntKind.bits, IntKind.signed]
theorem u32_add (x y : UInt32) : IntKind.u32.wrap (n32 x + n32 y) = n32 (x + y) := by
  simp only [wrap_u32, n32_def, UInt32.toNat_add]; omega
theorem u32_add' (x y : UInt32) : (n32 x + n32 y) % 4294967296 = n32 (x + y) := by
  simp only [n32_def, UInt32.toNat_add]; omega
theorem u32_mod (x : UInt32) : n32 x % 4294967296 = n32 x := by
  have := n32_lt x; have := n32_ge x; omega
theorem bits_u32 (op : BinOp) (x y : UInt32) (z : BitVec 32) (h : (match op with
    | .and => x.toBitVec &&& y.toBitVec
    | .or => x.toBitVec ||| y.toBitVec
    | .xor => x.toBitVec ^^^ y.toBitVec
    | _ => x.toBitVec &&& ~~~y.toBitVec) = z) : bits op .u32 (n32 x) (n32 y) = (z.toNat : Int) := by
  have hx : BitVec.ofInt 32 (n32 x) = x.toBitVec := by
    apply BitVec.eq_of_toNat_eq; simp [n32_def]
  have hy : BitVec.ofInt 32 (n32 y) = y.toBitVec := by
    apply BitVec.eq_of_toNat_eq; simp [n32_def]
  subst h
  unfold bits
  rw [show IntKind.u32.bits = 32 from rfl, hx, hy, wrap_u32]
  have hz : ∀ z : BitVec 32, ((z.toNat : Int)) % 4294967296 = (z.toNat : Int) := fun z => by have := z.isLt; omega
  exact hz _
theorem u32_xor (x y : UInt32) : bits .xor .u32 (n32 x) (n32 y) = n32 (x ^^^ y) := (bits_u32 .xor x y _ rfl).trans (n32_def _).symm
theorem u32_or (x y : UInt32) : bits .or .u32 (n32 x) (n32 y) = n32 (x ||| y) := (bits_u32 .or x y _ rfl).trans (n32_def _).symm
theorem u32_and (x y : UInt32) : bits .and .u32 (n32 x) (n32 y) = n32 (x &&& y) := (bits_u32 .and x y _ rfl).trans (n32_def _).symm
attribute [go_sem] u32_add u32_add' u32_xor u32_or u32_and u32_mod n32_ge
@[irreducible] def at32 (l : List UInt32) (i : Nat) : UInt32 := l.getD i 0
theorem at32_def (l : List UInt32) (i : Nat) : at32 l i = l.getD i 0 := by unfold at32; rfl
theorem at32_get (l : List UInt32) (i : Nat) (h : i < l.length) : at32 l i = l[i] := by rw [at32_def]; simp [h]
@[irreducible] def u32v (l : List UInt32) : List Value := l.map fun u => Value.int .u32 (n32 u)
theorem u32v_def (l : List UInt32) : u32v l = l.map fun u => Value.int .u32 (n32 u) := by unfold u32v; rfl
@[irreducible] def u32s (l : List UInt32) : Array Value := (u32v l).toArray
theorem u32s_def (l : List UInt32) : u32s l = (l.map fun u => Value.int .u32 (n32 u)).toArray := by unfold u32s; rw [u32v_def]
theorem u32s_toList (l : List UInt32) : (u32s l).toList = u32v l := by unfold u32s; rfl
theorem u32s_get (l : List UInt32) (i : Nat) (h : i < l.length) : (u32s l)[i]? = some (.int .u32 (n32 (at32 l i))) := by
  simp [u32s_def, h, at32_def, List.getD]
theorem u32v_get (l : List UInt32) (i : Nat) (h : i < l.length) : (u32v l)[i]? = some (.int .u32 (n32 (at32 l i))) := by
  simp [u32v_def, h, at32_def, List.getD]
theorem u32s_set (l : List UInt32) (i : Nat) (u : UInt32) : (u32s l).setIfInBounds i (.int .u32 (n32 u)) = u32s (l.set i u) := by
  simp [u32s_def, List.map_set]
theorem u32s_size (l : List UInt32) : (u32s l).size = l.length := by simp [u32s_def]
theorem u32v_length (l : List UInt32) : (u32v l).length = l.length := by simp [u32v_def]
theorem u32s_size_eq (l : List UInt32) (n : Nat) : ((u32s l).size = n) = (l.length = n) := by rw [u32s_size]
theorem u32s_one (l : List UInt32) : (u32s l).all (·.oneCell') = true := by simp [u32s_def, Value.oneCell']
theorem u32v_one (l : List UInt32) : ∀ u ∈ u32v l, u.oneCell' = true := by
  intro u hu
  rw [u32v_def] at hu
  obtain ⟨x, _, rfl⟩ := List.mem_map.1 hu
  rfl
theorem u32v_append (l m : List UInt32) : u32v l ++ u32v m = u32v (l ++ m) := by simp [u32v_def]
attribute [go_sem] u32s_get u32s_set u32s_size_eq u32s_one
theorem u32v_inj {l m : List UInt32} (h : u32v l = u32v m) : l = m := by
  rw [u32v_def, u32v_def] at h
  refine List.map_inj_right (f := fun u => Value.int .u32 (n32 u)) ?_ |>.1 h
  intro x y hxy
  injection hxy with _ h2
  exact n32_inj h2

/-! #### UInt64 -/
@[irreducible] def n64 (u : UInt64) : Int := u.toNat
theorem n64_def (u : UInt64) : n64 u = u.toNat := by unfold n64; rfl
theorem n64_lt (x : UInt64) : n64 x < 18446744073709551616 := by have := x.toNat_lt; rw [n64_def]; omega
theorem n64_ge (x : UInt64) : 0 ≤ n64 x := by rw [n64_def]; omega
theorem n64_inj {x y : UInt64} (h : n64 x = n64 y) : x = y := by
  rw [n64_def, n64_def] at h; exact UInt64.toNat_inj.1 (by omega)
theorem n64_eq (x y : UInt64) : (n64 x = n64 y) = (x = y) := propext ⟨n64_inj, fun h => by rw [h]⟩
theorem n64_beq (x y : UInt64) : (n64 x == n64 y) = (x == y) := by
  rw [Bool.eq_iff_iff, beq_iff_eq, beq_iff_eq, n64_eq]
theorem n64_lt_iff (x y : UInt64) : (n64 x < n64 y) = (x < y) := by
  rw [n64_def, n64_def, UInt64.lt_iff_toNat_lt]; exact propext ⟨fun h => by omega, fun h => by omega⟩
theorem n64_of (n : Int) (h0 : 0 ≤ n) (h1 : n < 18446744073709551616) : n64 (UInt64.ofNat n.toNat) = n := by
  rw [n64_def, UInt64.toNat_ofNat']; omega
theorem wrap_u64 (n : Int) : IntKind.u64.wrap n = n % 18446744073709551616 := by simp [IntKind.wrap, IntKind.bits, IntKind.signed]
theorem u64_add (x y : UInt64) : IntKind.u64.wrap (n64 x + n64 y) = n64 (x + y) := by
  simp only [wrap_u64, n64_def, UInt64.toNat_add]; omega
theorem u64_add' (x y : UInt64) : (n64 x + n64 y) % 18446744073709551616 = n64 (x + y) := by
  simp only [n64_def, UInt64.toNat_add]; omega
theorem u64_mod (x : UInt64) : n64 x % 18446744073709551616 = n64 x := by
  have := n64_lt x; have := n64_ge x; omega
theorem bits_u64 (op : BinOp) (x y : UInt64) (z : BitVec 64) (h : (match op with
    | .and => x.toBitVec &&& y.toBitVec
    | .or => x.toBitVec ||| y.toBitVec
    | .xor => x.toBitVec ^^^ y.toBitVec
    | _ => x.toBitVec &&& ~~~y.toBitVec) = z) : bits op .u64 (n64 x) (n64 y) = (z.toNat : Int) := by
  have hx : BitVec.ofInt 64 (n64 x) = x.toBitVec := by
    apply BitVec.eq_of_toNat_eq; simp [n64_def]
  have hy : BitVec.ofInt 64 (n64 y) = y.toBitVec := by
    apply BitVec.eq_of_toNat_eq; simp [n64_def]
  subst h
  unfold bits
  rw [show IntKind.u64.bits = 64 from rfl, hx, hy, wrap_u64]
  have hz : ∀ z : BitVec 64, ((z.toNat : Int)) % 18446744073709551616 = (z.toNat : Int) := fun z => by have := z.isLt; omega
  exact hz _
theorem u64_xor (x y : UInt64) : bits .xor .u64 (n64 x) (n64 y) = n64 (x ^^^ y) := (bits_u64 .xor x y _ rfl).trans (n64_def _).symm
theorem u64_or (x y : UInt64) : bits .or .u64 (n64 x) (n64 y) = n64 (x ||| y) := (bits_u64 .or x y _ rfl).trans (n64_def _).symm
theorem u64_and (x y : UInt64) : bits .and .u64 (n64 x) (n64 y) = n64 (x &&& y) := (bits_u64 .and x y _ rfl).trans (n64_def _).symm
attribute [go_sem] u64_add u64_add' u64_xor u64_or u64_and u64_mod n64_ge
@[irreducible] def at64 (l : List UInt64) (i : Nat) : UInt64 := l.getD i 0
theorem at64_def (l : List UInt64) (i : Nat) : at64 l i = l.getD i 0 := by unfold at64; rfl
theorem at64_get (l : List UInt64) (i : Nat) (h : i < l.length) : at64 l i = l[i] := by rw [at64_def]; simp [h]
@[irreducible] def u64v (l : List UInt64) : List Value := l.map fun u => Value.int .u64 (n64 u)
theorem u64v_def (l : List UInt64) : u64v l = l.map fun u => Value.int .u64 (n64 u) := by unfold u64v; rfl
@[irreducible] def u64s (l : List UInt64) : Array Value := (u64v l).toArray
theorem u64s_def (l : List UInt64) : u64s l = (l.map fun u => Value.int .u64 (n64 u)).toArray := by unfold u64s; rw [u64v_def]
theorem u64s_toList (l : List UInt64) : (u64s l).toList = u64v l := by unfold u64s; rfl
theorem u64s_get (l : List UInt64) (i : Nat) (h : i < l.length) : (u64s l)[i]? = some (.int .u64 (n64 (at64 l i))) := by
  simp [u64s_def, h, at64_def, List.getD]
theorem u64v_get (l : List UInt64) (i : Nat) (h : i < l.length) : (u64v l)[i]? = some (.int .u64 (n64 (at64 l i))) := by
  simp [u64v_def, h, at64_def, List.getD]
theorem u64s_set (l : List UInt64) (i : Nat) (u : UInt64) : (u64s l).setIfInBounds i (.int .u64 (n64 u)) = u64s (l.set i u) := by
  simp [u64s_def, List.map_set]
theorem u64s_size (l : List UInt64) : (u64s l).size = l.length := by simp [u64s_def]
theorem u64v_length (l : List UInt64) : (u64v l).length = l.length := by simp [u64v_def]
theorem u64s_size_eq (l : List UInt64) (n : Nat) : ((u64s l).size = n) = (l.length = n) := by rw [u64s_size]
theorem u64s_one (l : List UInt64) : (u64s l).all (·.oneCell') = true := by simp [u64s_def, Value.oneCell']
theorem u64v_one (l : List UInt64) : ∀ u ∈ u64v l, u.oneCell' = true := by
  intro u hu
  rw [u64v_def] at hu
  obtain ⟨x, _, rfl⟩ := List.mem_map.1 hu
  rfl
theorem u64v_append (l m : List UInt64) : u64v l ++ u64v m = u64v (l ++ m) := by simp [u64v_def]
attribute [go_sem] u64s_get u64s_set u64s_size_eq u64s_one
theorem u64v_inj {l m : List UInt64} (h : u64v l = u64v m) : l = m := by
  rw [u64v_def, u64v_def] at h
  refine List.map_inj_right (f := fun u => Value.int .u64 (n64 u)) ?_ |>.1 h
  intro x y hxy
  injection hxy with _ h2
  exact n64_inj h2


/-! ### lists of bytes -/
theorem ext8 {l : List UInt8} {k : Nat} {f : Nat → UInt8} (hl : l.length = k) (h : ∀ x, x < k → at8 l x = f x) : l = (List.range k).map f := by
  apply List.ext_getElem
  · simp [hl]
  · intro i h1 h2
    have := h i (by omega)
    rw [at8_get l i h1] at this
    simp [this]
theorem ext8' {l m : List UInt8} (hl : l.length = m.length) (h : ∀ x, x < l.length → at8 l x = at8 m x) : l = m := by
  apply List.ext_getElem hl
  intro i h1 h2
  have := h i h1
  rwa [at8_get l i h1, at8_get m i h2] at this
theorem at8_set (l : List UInt8) (i j : Nat) (b : UInt8) (h : i < l.length) : at8 (l.set i b) j = if i = j then b else at8 l j := by
  simp only [at8_def, List.getD, List.getElem?_set, h, if_true]
  split <;> simp
theorem at8_map (k i : Nat) (f : Nat → UInt8) (h : i < k) : at8 ((List.range k).map f) i = f i := by
  rw [at8_get _ i (by simpa using h)]; simp
/-- byte number i of a number, the lowest one first -/
@[irreducible] def byteOf (n : UInt64) (i : Nat) : UInt8 := UInt8.ofNat (n.toNat / 2 ^ (8 * i))
theorem byteOf_fold (n : UInt64) (i : Nat) : n64 n / 2 ^ (8 * i) % 256 = n8 (byteOf n i) := by
  unfold byteOf
  rw [n64_def, n8_def, UInt8.toNat_ofNat']
  have : ((2 : Int) ^ (8 * i)) = ((2 ^ (8 * i) : Nat) : Int) := by simp
  rw [this]; omega
theorem byteOf_fold' (n : UInt64) (i : Nat) : n64 n / 256 ^ i % 256 = n8 (byteOf n i) := by
  rw [← byteOf_fold, Int.pow_mul]; rfl
attribute [go_sem] byteOf_fold byteOf_fold'

theorem take_succ8 (l : List UInt8) (k : Nat) (h : k < l.length) : l.take (k + 1) = l.take k ++ [at8 l k] := by
  rw [List.take_succ_eq_append_getElem h, at8_get l k h]
/-- byte b, k bytes further up -/
@[irreducible] def shl8 (b : UInt8) (k : Nat) : UInt64 := UInt64.ofNat (b.toNat * 2 ^ (8 * k))
theorem shl8_fold (b : UInt8) (k : Nat) : n8 b * 2 ^ (8 * k) % 18446744073709551616 = n64 (shl8 b k) := by
  unfold shl8
  rw [n64_def, n8_def, UInt64.toNat_ofNat']
  have : ((2 : Int) ^ (8 * k)) = ((2 ^ (8 * k) : Nat) : Int) := by simp
  rw [this]; omega
@[irreducible] def up8 (b : UInt8) : UInt64 := UInt64.ofNat b.toNat
theorem up8_fold (b : UInt8) : n64 (up8 b) = n8 b := by
  unfold up8
  rw [n64_def, n8_def, UInt64.toNat_ofNat']
  have := b.toNat_lt
  omega
theorem n8_zero (u : UInt8) : (n8 u == 0) = (u == 0) := by
  rw [show (0 : Int) = n8 0 by rw [n8_def]; rfl, n8_beq]
theorem ret_bool {a b : Bool} (h : a = b) : Ending.returned (.bool a) = .returned (.bool b) := by rw [h]
theorem wrap64_n8 (b : UInt8) : IntKind.u64.wrap (n8 b) = n8 b := by
  rw [wrap_u64]; have := n8_ge b; have := n8_lt b; omega
theorem shl8_fold' (b : UInt8) (k : Nat) : IntKind.u64.wrap (n8 b * 2 ^ (8 * k)) = n64 (shl8 b k) := by
  rw [wrap_u64, shl8_fold]
theorem min_cast (a b : Nat) : min (a : Int) (b : Int) = ((min a b : Nat) : Int) := by omega
attribute [go_sem] shl8_fold shl8_fold' wrap64_n8

theorem lt_plus1 (n : Nat) : (n < n + 1) = True := by simp <;> omega
theorem lt_plus2 (n : Nat) : (n < n + 1 + 1) = True := by simp <;> omega
theorem lt_plus3 (n : Nat) : (n < n + 1 + 1 + 1) = True := by simp <;> omega
theorem lt_plus4 (n : Nat) : (n < n + 1 + 1 + 1 + 1) = True := by simp <;> omega
theorem lt_plus5 (n : Nat) : (n < n + 1 + 1 + 1 + 1 + 1) = True := by simp <;> omega
theorem lt_plus6 (n : Nat) : (n < n + 1 + 1 + 1 + 1 + 1 + 1) = True := by simp <;> omega
theorem lt_plus7 (n : Nat) : (n < n + 1 + 1 + 1 + 1 + 1 + 1 + 1) = True := by simp <;> omega
theorem lt_plus8 (n : Nat) : (n < n + 1 + 1 + 1 + 1 + 1 + 1 + 1 + 1) = True := by simp <;> omega
theorem lt_plus9 (n : Nat) : (n < n + 1 + 1 + 1 + 1 + 1 + 1 + 1 + 1 + 1) = True := by simp <;> omega
theorem lt_plus10 (n : Nat) : (n < n + 1 + 1 + 1 + 1 + 1 + 1 + 1 + 1 + 1 + 1) = True := by simp <;> omega
attribute [go_sem] lt_plus1 lt_plus2 lt_plus3 lt_plus4 lt_plus5 lt_plus6 lt_plus7 lt_plus8 lt_plus9 lt_plus10
/-! ### whole rows -/
def rowOf (w : World) (g : Nat) : Array Value := match w.heap[g]? with
  | some (.cells cs _ (0, 0)) => cs
  | _ => #[]
theorem rowOf_eq {w : World} {g : Nat} {cs : Array Value} {t : TypeId} (h : w.heap[g]? = some (.cells cs t (0, 0))) : rowOf w g = cs := by simp [rowOf, h]
theorem rowOf_some {w : World} {g n : Nat} (h : (rowOf w g).size = n) (hn : 0 < n) : ∃ t, w.heap[g]? = some (.cells (rowOf w g) t (0, 0)) := by
  unfold rowOf at *
  split at h
  · rename_i cs t hh; exact ⟨t, by simp [hh]⟩
  · simp at h; omega
theorem rowOf_drew (w : World) (g : Nat) : rowOf w.drew g = rowOf w g := rfl
/-- the cells of an object, unless some are frozen -/
def objRow : Obj → Array Value
  | .cells cs _ (0, 0) => cs
  | _ => #[]
def objSet : Obj → Array Value → Obj
  | .cells _ t fr, cs => .cells cs t fr
  | o, _ => o
theorem objRow_cells (cs : Array Value) (t : TypeId) : objRow (.cells cs t) = cs := rfl
theorem objSet_cells (cs cs' : Array Value) (t : TypeId) (fr : Nat × Nat) : objSet (.cells cs t fr) cs' = .cells cs' t fr := rfl
theorem rowOf_alloc (w : World) (g : Nat) (o : Obj) : rowOf (w.alloc o) g = if g < w.heap.size then rowOf w g else if g = w.heap.size then objRow o else #[] := by
  unfold rowOf
  by_cases h : g < w.heap.size
  · rw [if_pos h, heap_alloc_old w o h]
  · rw [if_neg h]
    by_cases e : g = w.heap.size
    · subst e
      rw [if_pos rfl, heap_alloc_new w o]
      cases o <;> simp [objRow]
      split <;> simp_all
    · rw [if_neg e]
      have : (w.alloc o).heap[g]? = none := by
        show (w.heap.push o)[g]? = none
        rw [Array.getElem?_eq_none]; simp; omega
      rw [this]
theorem setRow_alloc (w : World) (g : Nat) (o : Obj) (c' : Array Value) :
    (w.alloc o).setRow g c' = if g < w.heap.size then (w.setRow g c').alloc o else if g = w.heap.size then w.alloc (objSet o c') else w.alloc o := by
  by_cases h : g < w.heap.size
  · rw [if_pos h]
    simp only [World.setRow, World.alloc]
    congr 1
    apply Array.ext_getElem?
    intro i
    rw [Array.getElem?_modify]
    simp only [Array.getElem?_push, Array.getElem?_modify, Array.size_modify]
    by_cases hi : g = i
    · subst hi
      simp [Nat.ne_of_lt h]
    · simp [hi]
  · rw [if_neg h]
    by_cases e : g = w.heap.size
    · subst e
      rw [if_pos rfl]
      simp only [World.setRow, World.alloc]
      congr 1
      apply Array.ext_getElem?
      intro i
      rw [Array.getElem?_modify]
      by_cases h : w.heap.size = i
      · subst h
        cases o <;> simp [objSet]
      · have h' : ¬ i = w.heap.size := fun e => h e.symm
        simp [h, h', Array.getElem?_push]
    · rw [if_neg e]
      simp only [World.setRow, World.alloc]
      congr 1
      apply Array.ext_getElem?
      intro i
      rw [Array.getElem?_modify]
      by_cases hi : g = i
      · subst hi
        rw [if_pos rfl, Array.getElem?_eq_none (by simp; omega)]
        rfl
      · simp [hi]
theorem setRow_drew (w : World) (g : Nat) (c' : Array Value) : w.drew.setRow g c' = (w.setRow g c').drew := rfl
/-- a whole array or struct out of the beginning of a block that has just its cells -/
theorem run_loadAt_rowOf {P : Program} (w : World) (g n : Nat) (ty : TypeId) (hn : 0 < n) (hu : (match P.underlying ty with | some (.struct _) | some (.array _ _) => true | _ => false) = true)
    (hi : (P.info? ty).map (·.size) = some n) (hr : (rowOf w g).size = n) :
    (Instr.loadAt ty (.pointer (some ⟨g, 0, none⟩))).run P w = .ok (.agg (rowOf w g)) w := by
  obtain ⟨t, ht⟩ := rowOf_some hr hn
  simp only [Instr.loadAt, Instr.sureAddr, Sem.run_bind, Sem.run_pure, Result.andThen]
  cases hd : P.underlying ty with
  | none => simp [hd] at hu
  | some d => exact run_loadVar_row w g t ty _ (0, 0) d ht hd (by rw [hd] at hu; cases d <;> simp_all) (by rw [hi, hr])
theorem run_storeAt_rowOf {P : Program} (w : World) (g n : Nat) (ty : TypeId) (cs : Array Value) (hn : 0 < n)
    (hi : (P.info? ty).map (·.size) = some n) (hr : (rowOf w g).size = n) (hc : cs.size = n) (h1 : cs.all (·.oneCell') = true) :
    (Instr.storeAt ty (.pointer (some ⟨g, 0, none⟩)) (.agg cs)).run P w = .ok () (w.setRow g cs) := by
  obtain ⟨t, ht⟩ := rowOf_some hr hn
  simp only [Instr.storeAt, Instr.sureAddr, Sem.run_bind, Sem.run_pure, Result.andThen]
  exact run_storeVar_row w g t ty _ _ ht (by rw [hi, hc]) (by rw [hr, hc]) h1
/-- a load or a store of a whole composite, kept closed until its block is known -/
@[irreducible] def loadAgg (t : TypeId) (v : Value) : Sem Next := do pure (Next.value (← Instr.loadAt t v))
@[irreducible] def storeAgg (t : TypeId) (v x : Value) : Sem Next := do Instr.storeAt t v x; pure Next.skip
theorem exec_loadAgg (ev : Operand → Value) (d : Option Tmp) (t : TypeId) (x : Operand) (ty : TypeId) (p : String) (af : Array Edge) (g : Option (Nat × Bool)) :
    execOp ev ⟨d, .load t x, ty, p, af, g⟩ = loadAgg t (ev x) := by unfold loadAgg; rfl
theorem exec_storeAgg (ev : Operand → Value) (d : Option Tmp) (t : TypeId) (x y : Operand) (ty : TypeId) (p : String) (af : Array Edge) (g : Option (Nat × Bool)) :
    execOp ev ⟨d, .store t x y, ty, p, af, g⟩ = storeAgg t (ev x) (ev y) := by unfold storeAgg; rfl
theorem run_loadAgg {P : Program} (n : Nat) (ty : TypeId) (hn : 0 < n) (hu : (match P.underlying ty with | some (.struct _) | some (.array _ _) => true | _ => false) = true)
    (hi : (P.info? ty).map (·.size) = some n) (w : World) (g : Nat) (hr : (rowOf w g).size = n) :
    (loadAgg ty (.pointer (some ⟨g, 0, none⟩))).run P w = .ok (.value (.agg (rowOf w g))) w := by
  unfold loadAgg
  simp only [Sem.run_bind, run_loadAt_rowOf w g n ty hn hu hi hr, Result.andThen_ok, Sem.run_pure]
theorem run_storeAgg {P : Program} (n : Nat) (ty : TypeId) (hn : 0 < n)
    (hi : (P.info? ty).map (·.size) = some n) (w : World) (g : Nat) (cs : Array Value) (hr : (rowOf w g).size = n) (hc : cs.size = n) (h1 : cs.all (·.oneCell') = true) :
    (storeAgg ty (.pointer (some ⟨g, 0, none⟩)) (.agg cs)).run P w = .ok .skip (w.setRow g cs) := by
  unfold storeAgg
  simp only [Sem.run_bind, run_storeAt_rowOf w g n ty cs hn hi hr hc h1, Result.andThen_ok, Sem.run_pure]
attribute [go_sem] rowOf_drew rowOf_alloc setRow_alloc setRow_drew objRow_cells objSet_cells
/-- block g is a row of cells, none frozen -/
def IsRow (w : World) (g : Nat) : Prop := ∃ cs t, w.heap[g]? = some (.cells cs t (0, 0))
theorem IsRow.lt {w : World} {g : Nat} (h : IsRow w g) : g < w.heap.size := by
  obtain ⟨cs, t, h⟩ := h
  exact (Array.getElem?_eq_some_iff.1 h).1
theorem IsRow.heap {w : World} {g : Nat} (h : IsRow w g) : ∃ t, w.heap[g]? = some (.cells (rowOf w g) t (0, 0)) := by
  obtain ⟨cs, t, h⟩ := h
  exact ⟨t, by rw [rowOf_eq h]; exact h⟩
theorem IsRow.new (w : World) (cs : Array Value) (t : TypeId) : IsRow (w.alloc (.cells cs t)) w.heap.size := ⟨cs, t, heap_alloc_new w _⟩
theorem cell?_setRow (w : World) (g : Nat) (cs : Array Value) (i : Nat) (h : IsRow w g) : (w.setRow g cs).cell? ⟨g, i, none⟩ = cs[i]? := by
  obtain ⟨t, ht⟩ := h.heap
  exact cell_of_row _ g i cs t (0, 0) (setRow_heap w g _ cs t (0, 0) ht)
theorem frozen?_setRow (w : World) (g : Nat) (cs : Array Value) (i : Nat) (h : IsRow w g) : (w.setRow g cs).frozen? ⟨g, i, none⟩ = false := by
  obtain ⟨t, ht⟩ := h.heap
  exact frozen_of_row _ g i cs t (setRow_heap w g _ cs t (0, 0) ht)
theorem setCell_setRow (w : World) (g : Nat) (cs : Array Value) (i : Nat) (v : Value) : (w.setRow g cs).setCell ⟨g, i, none⟩ v = w.setRow g (cs.setIfInBounds i v) := by
  simp only [World.setRow, World.setCell]
  congr 1
  apply Array.ext_getElem?
  intro j
  simp only [Array.getElem?_modify]
  by_cases hj : g = j
  · subst hj
    cases hg : w.heap[g]? with
    | none => simp
    | some o => cases o <;> simp
  · simp [hj]
theorem setRow_setRow (w : World) (g : Nat) (cs cs' : Array Value) : (w.setRow g cs).setRow g cs' = w.setRow g cs' := by
  simp only [World.setRow]
  congr 1
  apply Array.ext_getElem?
  intro j
  simp only [Array.getElem?_modify]
  by_cases hj : g = j
  · subst hj
    cases hg : w.heap[g]? with
    | none => simp
    | some o => cases o <;> simp
  · simp [hj]
theorem setRow_same (w : World) (g : Nat) (cs : Array Value) (hr : rowOf w g = cs) (h : IsRow w g) : w.setRow g cs = w := by
  obtain ⟨t, ht⟩ := h.heap
  have he : (w.setRow g cs).heap = w.heap := by
    simp only [World.setRow]
    apply Array.ext_getElem?
    intro j
    rw [Array.getElem?_modify]
    by_cases hj : g = j
    · subst hj; rw [if_pos rfl, ht, hr]; rfl
    · rw [if_neg hj]
  have : w.setRow g cs = { w with heap := (w.setRow g cs).heap } := rfl
  rw [this, he]
theorem rowOf_setRow (w : World) (g : Nat) (cs : Array Value) (h : IsRow w g) : rowOf (w.setRow g cs) g = cs := by
  obtain ⟨t, ht⟩ := h.heap
  exact rowOf_eq (setRow_heap w g _ cs t (0, 0) ht)
attribute [go_sem] cell?_setRow frozen?_setRow setCell_setRow rowOf_setRow size_setRow
theorem setCell_drewN (w : World) (n : Nat) (a : Addr) (v : Value) : (w.drewN n).setCell a v = (w.setCell a v).drewN n := rfl
theorem setRow_drewN (w : World) (n g : Nat) (cs : Array Value) : (w.drewN n).setRow g cs = (w.setRow g cs).drewN n := rfl
theorem rowOf_drewN (w : World) (n g : Nat) : rowOf (w.drewN n) g = rowOf w g := rfl
theorem alloc_drewN (w : World) (n : Nat) (o : Obj) : (w.drewN n).alloc o = (w.alloc o).drewN n := rfl
theorem below_drewN {B n : Nat} {a w : World} (h : Below B a w) : Below B a (w.drewN n) := ⟨h.os, h.tape, h.output, h.size, h.block⟩
attribute [go_sem] setCell_drewN setRow_drewN rowOf_drewN
/-- a slice value's address and length read as this list of bytes, in a block below B -/
def Rd8 (w : World) (B : Nat) (A : Option Addr) (l : List UInt8) : Prop :=
  0 < l.length → ∃ g o, A = some ⟨g, o, none⟩ ∧ g < B ∧ ∀ i, i < l.length → w.cell? ⟨g, o + i, none⟩ = some (.int .u8 (n8 (at8 l i)))
theorem Rd8.nil (w : World) (B : Nat) (A : Option Addr) : Rd8 w B A [] := fun h => absurd h (by simp)
theorem Rd8.keep {w w' : World} {B : Nat} {A : Option Addr} {l : List UInt8} (h : Rd8 w B A l) (hk : ∀ p : Addr, p.block < B → w'.cell? p = w.cell? p) : Rd8 w' B A l := fun hn => by
  obtain ⟨g, o, rfl, hb, hc⟩ := h hn
  exact ⟨g, o, rfl, hb, fun i hi => (hk _ hb).trans (hc i hi)⟩
theorem Rd8.more {w : World} {B B' : Nat} {A : Option Addr} {l : List UInt8} (h : Rd8 w B A l) (hB : B ≤ B') : Rd8 w B' A l := fun hn => by
  obtain ⟨g, o, rfl, hb, hc⟩ := h hn
  exact ⟨g, o, rfl, by omega, hc⟩
theorem Rd8.below {w w' : World} {B : Nat} {A : Option Addr} {l : List UInt8} (h : Rd8 w B A l) (hb : Below B w w') : Rd8 w' B A l := h.keep fun _ hp => hb.cell hp
theorem Rd8.take {w : World} {B : Nat} {A : Option Addr} {l : List UInt8} (h : Rd8 w B A l) (k : Nat) : Rd8 w B A (l.take k) := fun hn => by
  obtain ⟨g, o, rfl, hb, hc⟩ := h (by simp at hn; omega)
  refine ⟨g, o, rfl, hb, fun i hi => ?_⟩
  have hi' : i < l.length := by simp at hi; omega
  rw [hc i hi', at8_get _ i hi', at8_get _ i hi]; simp
theorem Rd8.drop {w : World} {B g o : Nat} {l : List UInt8} (h : Rd8 w B (some ⟨g, o, none⟩) l) (k : Nat) : Rd8 w B (some ⟨g, o + k, none⟩) (l.drop k) := fun hn => by
  obtain ⟨g', o', e, hb, hc⟩ := h (by simp at hn; omega)
  injection e with e; injection e with e1 e2; subst e1; subst e2
  refine ⟨_, _, rfl, hb, fun i hi => ?_⟩
  have hi' : k + i < l.length := by simp at hi; omega
  rw [show o + k + i = o + (k + i) by omega, hc _ hi', at8_get _ _ hi', at8_get _ i hi]; simp
theorem at8_take (l : List UInt8) (k i : Nat) (h : i < k) : at8 (l.take k) i = at8 l i := by
  simp only [at8_def, List.getD, List.getElem?_take, h, if_true]
theorem at8_drop (l : List UInt8) (k i : Nat) : at8 (l.drop k) i = at8 l (k + i) := by
  simp only [at8_def, List.getD, List.getElem?_drop]
theorem rd8_row {w : World} {g : Nat} {l : List UInt8} (h : rowOf w g = u8s l) : Rd8 w (g + 1) (some ⟨g, 0, none⟩) l := fun hn => by
  obtain ⟨t, ht⟩ := rowOf_some (w := w) (g := g) (n := l.length) (by rw [h, u8s_size]) hn
  refine ⟨g, 0, rfl, by omega, fun i hi => ?_⟩
  rw [cell_of_row w g _ _ t _ ht, h, Nat.zero_add, u8s_get l i hi]

/-- the bytes that 'make' lays -/
theorem made8 (k : Nat) : madeCells (Value.int .u8 0).cells (k * 1) = u8s (List.replicate k 0) := by
  apply Array.ext
  · simp [size_madeCells, u8s_size]
  · intro i h1 h2
    simp [madeCells, Value.cells, u8s_def, n8_def, Nat.mod_one]
theorem run_make8 {P : Program} {t e : TypeId} (ht : P.underlying t = some (.slice e)) (hi : (P.info? e).map (fun i => (i.zero, i.size, i.bytes)) = some (some (.int .u8 0), 1, 1)) (k : Nat) (hk : k ≤ 281474976710656) (w : World) :
    (Instr.makeSlice t (.int .i64 k) (.int .i64 k)).run P w = .ok (.slice (some ⟨w.heap.size, 0, none⟩) k k) (w.alloc (.cells (u8s (List.replicate k 0)) e)) := by
  obtain ⟨i, hi1, hz, hs, hb⟩ := info_parts hi
  have := run_make w t e i _ ht hi1 hz .i64 .i64 k k (by omega) (by omega) (by rw [hb]; omega) (by omega)
  rw [this, hs]
  simp only [Int.toNat_natCast, made8]

/-- a slice value that the call made itself: nil, or the head of a block from 'base' on that is nobody else's -/
def Own8 (T : TypeId) (w : World) (base : Nat) (v : Value) (l : List UInt8) : Prop := w.ownsRow base T 1 v l.length (u8v l)
theorem Own8.nil (T : TypeId) (w : World) (base : Nat) : Own8 T w base (.slice none 0 0) [] := by
  refine ⟨by simp [u8v_def], .inl ⟨rfl, rfl⟩⟩
theorem Own8.rd {T : TypeId} {w : World} {base : Nat} {A : Option Addr} {n c : Nat} {l : List UInt8} (h : Own8 T w base (.slice A n c) l) : Rd8 w w.heap.size A l := fun hn => by
  obtain ⟨g, cap, hv, _, hlt⟩ := World.ownsRow.form h hn
  injection hv with hA
  subst hA
  refine ⟨g, 0, rfl, hlt, fun i hi => ?_⟩
  have hc := h.cells (g := g) rfl i _ (u8v_get l i hi)
  have hadd : (⟨g, 0, none⟩ : Addr).add i = ⟨g, i, none⟩ := by unfold Addr.add; split <;> simp_all
  rw [hadd] at hc
  rw [Nat.zero_add, hc]
theorem Own8.len {T : TypeId} {w : World} {base : Nat} {A : Option Addr} {n c : Nat} {l : List UInt8} (h : Own8 T w base (.slice A n c) l) : n = l.length ∧ l.length ≤ c := by
  rcases h.2 with ⟨h1, h2⟩ | ⟨g, cap, cur, hv, _, _, hle, _⟩
  · injection h1 with _ hn hc; omega
  · injection hv with _ hn hc; omega
theorem Own8.slice {T : TypeId} {w : World} {base : Nat} {v : Value} {l : List UInt8} (h : Own8 T w base v l) : ∃ A c, v = .slice A l.length c := by
  rcases h.2 with ⟨h1, h2⟩ | ⟨g, cap, cur, hv, _⟩
  · exact ⟨none, 0, by rw [h1, h2]⟩
  · exact ⟨_, _, hv⟩
theorem Own8.drew {T : TypeId} {w : World} {base : Nat} {v : Value} {l : List UInt8} (h : Own8 T w base v l) : Own8 T w.drew base v l := h
theorem Own8.drewN {T : TypeId} {w : World} {base n : Nat} {v : Value} {l : List UInt8} (h : Own8 T w base v l) : Own8 T (w.drewN n) base v l := h
theorem Own8.more {T : TypeId} {w : World} {base base' : Nat} {v : Value} {l : List UInt8} (h : Own8 T w base v l) (hb : base' ≤ base) : Own8 T w base' v l := by
  obtain ⟨h1, h2⟩ := h
  refine ⟨h1, ?_⟩
  rcases h2 with h2 | ⟨g, cap, cur, hv, hg, r⟩
  · exact .inl h2
  · exact .inr ⟨g, cap, cur, hv, by omega, r⟩
theorem Own8.alloc {T : TypeId} {w : World} {base : Nat} {v : Value} {l : List UInt8} (h : Own8 T w base v l) (o : Obj) : Own8 T (w.alloc o) base v l := World.ownsRow.alloc h o
theorem Own8.below {T : TypeId} {w w' : World} {base B : Nat} {v : Value} {l : List UInt8} (h : Own8 T w base v l) (hb : Below B w w') (hB : w.heap.size ≤ B) : Own8 T w' base v l := by
  obtain ⟨h1, h2⟩ := h
  refine ⟨h1, ?_⟩
  rcases h2 with h2 | ⟨g, cap, cur, hv, hg, hh, r⟩
  · exact .inl h2
  · refine .inr ⟨g, cap, cur, hv, hg, ?_, r⟩
    have hlt := (Array.getElem?_eq_some_iff.1 hh).1
    rw [hb.block g (by omega)]; exact hh
theorem Own8.new (T : TypeId) (w : World) (base : Nat) (l : List UInt8) (hb : base ≤ w.heap.size) (hm : l.length ≤ maxLen) : Own8 T (w.alloc (.cells (u8s l) T)) base (.slice (some ⟨w.heap.size, 0, none⟩) l.length l.length) l := by
  refine ⟨by rw [u8v_length, Nat.mul_one], .inr ⟨w.heap.size, l.length, u8s l, rfl, hb, heap_alloc_new w _, Nat.le_refl _, hm, by rw [u8s_size, Nat.mul_one], ?_⟩⟩
  rw [u8s_toList, Nat.mul_one, List.take_of_length_le (by rw [u8v_length]; exact Nat.le_refl _)]

theorem Own8.setCell_other {T : TypeId} {w : World} {base : Nat} {v : Value} {l : List UInt8} (h : Own8 T w base v l) {a : Addr} (ha : v.ownBlock ≠ some a.block) (u : Value) : Own8 T (w.setCell a u) base v l := by
  obtain ⟨h1, h2⟩ := h
  refine ⟨h1, ?_⟩
  rcases h2 with h2 | ⟨g, cap, cur, hv, hg, hh, r⟩
  · exact .inl h2
  · refine .inr ⟨g, cap, cur, hv, hg, ?_, r⟩
    rw [Below.heap_setCell _ _ _ _ (fun e => ha (by rw [hv, e]; rfl))]; exact hh
/-- one byte appended to a row of the call's own: at the operation, at a plain region's list, at a step of a region that draws -/
theorem wp_append8 {K : Act → World → Prop} {P : Program} {o : Oper} {a : Act} {Q : Exit → Act → World → Prop} {w : World} {t e : TypeId} (ht : P.underlying t = some (.slice e))
    (hi : (P.info? e).map (fun i => (i.zero, i.size, i.bytes)) = some (some (.int .u8 0), 1, 1)) (_hgd : o.guard = none) (s x : Operand)
    (ho : o.op = .call { callee := .builtin .append, args := #[s, x], argTypes := #[t, t] })
    (base : Nat) (v : Value) (l : List UInt8) (hs : a.eval s = v) (hown : Own8 e w base v l) (gx : Nat) (b : UInt8) (hx : a.eval x = .slice (some ⟨gx, 0, none⟩) 1 1)
    (hc : w.cell? ⟨gx, 0, none⟩ = some (.int .u8 (n8 b))) (hlen : l.length + 1 ≤ 140737488355328) (hbase : base ≤ w.heap.size)
    (h : ∀ g cap w', Own8 e w' base (.slice (some ⟨g, 0, none⟩) (l.length + 1) cap) (l ++ [b]) → w.grownBy w' v.ownBlock → (v.ownBlock = some g ∨ g = w.heap.size) → g < w'.heap.size →
      K (a.put o.dst (.slice (some ⟨g, 0, none⟩) (l.length + 1) cap)) w') : o.wp P a w K Q := by
  obtain ⟨i, hi1, hz, hs1, hb1⟩ := info_parts hi
  refine wp_append_lies w s x t ho base e i _ 1 1 ht hi1 hz hs1 hb1 rfl (by omega) v l.length (u8v l) hs hown ⟨gx, 0, none⟩ 1 1 [.int .u8 (n8 b)] hx rfl ?_ ?_ (by omega) ?_ (by omega) hbase w.heap.size rfl ?_
  · intro j u hu
    match j, hu with
    | 0, hu =>
      have e0 : ((⟨gx, 0, none⟩ : Addr).add 0) = ⟨gx, 0, none⟩ := by simp [Addr.add]
      rw [e0, hc]; exact hu
    | j + 1, hu => simp at hu
  · intro u hu
    simp at hu; subst hu; rfl
  · simp only [maxLen]; omega
  · intro g cap w' h1 h2 h3 h4
    have e1 : u8v l ++ [Value.int .u8 (n8 b)] = u8v (l ++ [b]) := by simp [u8v_def]
    have e2 : (l ++ [b]).length = l.length + 1 := by simp
    refine h g cap w' ?_ h2 h3 h4
    unfold Own8; rw [← e1, e2]; exact h1
theorem wpList_append8 {ops : Array Oper} {rest : List Oper} {P : Program} {o : Oper} {a : Act} {Q : Exit → Act → World → Prop} {w : World} {t e : TypeId} (ht : P.underlying t = some (.slice e))
    (hi : (P.info? e).map (fun i => (i.zero, i.size, i.bytes)) = some (some (.int .u8 0), 1, 1)) (hgd : o.guard = none) (s x : Operand)
    (ho : o.op = .call { callee := .builtin .append, args := #[s, x], argTypes := #[t, t] })
    (base : Nat) (v : Value) (l : List UInt8) (hs : a.eval s = v) (hown : Own8 e w base v l) (gx : Nat) (b : UInt8) (hx : a.eval x = .slice (some ⟨gx, 0, none⟩) 1 1)
    (hc : w.cell? ⟨gx, 0, none⟩ = some (.int .u8 (n8 b))) (hlen : l.length + 1 ≤ 140737488355328) (hbase : base ≤ w.heap.size)
    (h : ∀ g cap w', Own8 e w' base (.slice (some ⟨g, 0, none⟩) (l.length + 1) cap) (l ++ [b]) → w.grownBy w' v.ownBlock → (v.ownBlock = some g ∨ g = w.heap.size) → g < w'.heap.size →
      wpList P ops Q rest (a.put o.dst (.slice (some ⟨g, 0, none⟩) (l.length + 1) cap)) w') : wpList P ops Q (o :: rest) a w :=
  wpList_plain hgd fun _ hK => wp_append8 ht hi hgd s x ho base v l hs hown gx b hx hc hlen hbase fun g cap w' h1 h2 h3 h4 => hK _ _ (h g cap w' h1 h2 h3 h4)
theorem step_append8 {ops : Array Oper} {K : Act → World → Prop} {E : Prop} {P : Program} {o : Oper} {a : Act} {Q : Exit → Act → World → Prop} {w : World} {t e : TypeId} (ht : P.underlying t = some (.slice e))
    (hi : (P.info? e).map (fun i => (i.zero, i.size, i.bytes)) = some (some (.int .u8 0), 1, 1)) (hgd : o.guard = none) (s x : Operand)
    (ho : o.op = .call { callee := .builtin .append, args := #[s, x], argTypes := #[t, t] })
    (base : Nat) (v : Value) (l : List UInt8) (hs : a.eval s = v) (hown : Own8 e w base v l) (gx : Nat) (b : UInt8) (hx : a.eval x = .slice (some ⟨gx, 0, none⟩) 1 1)
    (hc : w.cell? ⟨gx, 0, none⟩ = some (.int .u8 (n8 b))) (hlen : l.length + 1 ≤ 140737488355328) (hbase : base ≤ w.heap.size)
    (h : ∀ g cap w', Own8 e w' base (.slice (some ⟨g, 0, none⟩) (l.length + 1) cap) (l ++ [b]) → w.grownBy w' v.ownBlock → (v.ownBlock = some g ∨ g = w.heap.size) → g < w'.heap.size →
      K (a.put o.dst (.slice (some ⟨g, 0, none⟩) (l.length + 1) cap)) w') :
    if Region.wanted o (yielded ops a.tmps) = true then Oper.wp P o a w K Q else E := by
  have hw : Region.wanted o (yielded ops a.tmps) = true := by simp [Region.wanted, hgd]
  rw [if_pos hw]
  exact wp_append8 ht hi hgd s x ho base v l hs hown gx b hx hc hlen hbase h
/-- a function that hands back bytes in memory of its own and leaves all that was there -/
def OwnRes (T : TypeId) (w : World) (l : List UInt8) (e : Ending) (w' : World) : Prop := ∃ A c, e = .returned (.slice A l.length c) ∧ Own8 T w' w.heap.size (.slice A l.length c) l ∧ Below w.heap.size w w'
theorem OwnRes.mk {T : TypeId} {w w' : World} {l : List UInt8} {v : Value} (h : Own8 T w' w.heap.size v l) (hb : Below w.heap.size w w') : OwnRes T w l (.returned v) w' := by
  obtain ⟨A, c, rfl⟩ := h.slice
  exact ⟨A, c, rfl, h, hb⟩
/-- the same, as a reader needs it -/
def RdRes (w : World) (l : List UInt8) (e : Ending) (w' : World) : Prop := ∃ A c, e = .returned (.slice A l.length c) ∧ l.length ≤ c ∧ Rd8 w' w'.heap.size A l ∧ Below w.heap.size w w'
theorem OwnRes.rd {T : TypeId} {w w' : World} {l : List UInt8} {e : Ending} (h : OwnRes T w l e w') : RdRes w l e w' := by
  obtain ⟨A, c, rfl, h1, h2⟩ := h
  exact ⟨A, c, rfl, h1.len.2, h1.rd, h2⟩
theorem Rd8.step {w w' : World} {A : Option Addr} {l : List UInt8} (h : Rd8 w w.heap.size A l) (hb : Below w.heap.size w w') : Rd8 w' w'.heap.size A l := (h.below hb).more hb.size
theorem Rd8.alloc' {w : World} {A : Option Addr} {l : List UInt8} (h : Rd8 w w.heap.size A l) (o : Obj) : Rd8 (w.alloc o) (w.alloc o).heap.size A l := h.step ((Below.refl _ _).alloc (Nat.le_refl _) o)
theorem Rd8.drew' {w : World} {A : Option Addr} {l : List UInt8} (h : Rd8 w w.heap.size A l) : Rd8 w.drew w.drew.heap.size A l := h
theorem Rd8.drewN' {w : World} {A : Option Addr} {l : List UInt8} (n : Nat) (h : Rd8 w w.heap.size A l) : Rd8 (w.drewN n) (w.drewN n).heap.size A l := h
theorem rd8_of_row {w : World} {g : Nat} {l : List UInt8} (h : rowOf w g = u8s l) (hg : g < w.heap.size) : Rd8 w w.heap.size (some ⟨g, 0, none⟩) l := (rd8_row h).more hg
theorem rd8_new (w : World) (l : List UInt8) (T : TypeId) : Rd8 (w.alloc (.cells (u8s l) T)) (w.alloc (.cells (u8s l) T)).heap.size (some ⟨w.heap.size, 0, none⟩) l :=
  rd8_of_row (by rw [rowOf_alloc, if_neg (by omega), if_pos rfl]; rfl) (by simp)
/-- what an append leaves of the world below a base -/
theorem below_append {B base : Nat} {T : TypeId} {w w1 w2 : World} {v : Value} {l : List UInt8} (hb : Below B w w1) (hown : Own8 T w1 base v l) (hg : w1.grownBy w2 v.ownBlock) (hB : B ≤ base) (hs : B ≤ w1.heap.size) : Below B w w2 := by
  refine hb.grown hg hs fun k hk => ?_
  rcases hown.2 with ⟨h1, _⟩ | ⟨g, cap, cur, hv, hbg, _⟩
  · rw [h1] at hk; simp [Value.ownBlock] at hk
  · rw [hv] at hk; simp [Value.ownBlock] at hk; omega
/-- A drawn region: a quiet head of n operations, then a forced tail; the world behind the draw as 'w.drew'. -/
theorem wp_region_tail {P : Program} {id : Nat} {Q : Exit → Act → World → Prop} {a : Act} {w : World} {l : List Oper} (n : Nat) (hm : P.follows .mixedOrders = true) (hB : Region.lexTailB .any l.toArray n = true)
    (h : wpStill P l.toArray w.drew (fun a' => wpList P l.toArray Q (l.drop n) a' w.drew) (l.take n) a) : (Code.region id l.toArray true).wp P Q a w :=
  wp_region_still_tail n hm hB h
/-- the end of a function whose one result is an array or a struct in memory -/
theorem bodyPost_retRow {P : Program} {fn : Func} {R : Ending → World → Prop} {a : Act} {w : World} (p : Tmp) (ty : TypeId) (g n : Nat) (hres : fn.results = #[.cell p ty])
    (hp : a.tmps.getD p undef = .pointer (some ⟨g, 0, none⟩)) (hn : 0 < n) (hu : (match P.underlying ty with | some (.struct _) | some (.array _ _) => true | _ => false) = true)
    (hi : (P.info? ty).map (·.size) = some n) (hr : (rowOf w g).size = n) (hd : a.defers = []) (hR : R (.returned (.agg (rowOf w g))) w) : bodyPost P fn R .ret a w := by
  obtain ⟨t, ht⟩ := rowOf_some hr hn
  cases hdd : P.underlying ty with
  | none => simp [hdd] at hu
  | some d => exact bodyPost_ret (results_cell_row hres _ w g t _ (0, 0) d hp ht hdd (by rw [hdd] at hu; cases d <;> simp_all) (by rw [hi, hr])) hd hR
end Go.Proofs.YtopmdbmnlflpgaaDoor
