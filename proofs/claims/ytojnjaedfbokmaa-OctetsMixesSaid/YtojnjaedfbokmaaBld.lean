/- strings.Builder as layer 1 uses it: a builder that the call itself made, byte by byte. -/
import Derived.Test.YtojnjaedfbokmaaFacts
import Derived.Test.YtojnjaedfbokmaaShelf
import Derived.Lib.Builder
import Derived.Lib.UnsafeStr
namespace Go.Proofs.Ytojnjaedfbokmaa
open Go.RowKit

theorem Try.sizeBuilder : (Try.prog.info? 46).map (·.size) = some 2 := by kernel_rfl
theorem copyCheck_used (b : Nat) (w : World) (h0 : w.cell? ⟨b, 0, none⟩ = some (.pointer (some ⟨b, 0, none⟩))) :
    Calls Try.prog 37 #[.pointer (some ⟨b, 0, none⟩)] w fun e w' => e = .returned (.tuple #[]) ∧ w' = w := by
  obtain ⟨j, hj, _⟩ := Option.map_eq_some_iff.1 Try.sizeBuilder
  go_enter Try.func37, Try.ntmps37
  go_wp2
  rw [Lib.run_neq_ptr_same w _ Try.underlying44 hj]
  go_wp2
  go_end0
  exact ⟨rfl, rfl⟩
set_option maxRecDepth 100000 in
theorem copyCheck_fresh (b : Nat) (w : World) (h0 : w.cell? ⟨b, 0, none⟩ = some (.pointer none)) (hsh : w.shape? b = some (46, 2)) (hfz : w.frozen? ⟨b, 0, none⟩ = false) :
    Calls Try.prog 37 #[.pointer (some ⟨b, 0, none⟩)] w fun e w' => e = .returned (.tuple #[]) ∧ w' = w.setCell ⟨b, 0, none⟩ (.pointer (some ⟨b, 0, none⟩)) := by
  obtain ⟨j, hj, hjs⟩ := Option.map_eq_some_iff.1 Try.sizeBuilder
  go_enter Try.func37, Try.ntmps37
  go_wp2
  rw [Lib.run_to_unsafe w ⟨b, 0, none⟩ Try.underlying44 Try.underlying56 hj (by rw [hjs]; decide) hsh (Nat.zero_lt_succ 1)]
  simp only [Result.andThen]
  rw [Oper.upon_value]
  go_wp2
  rw [run_callFunc_extern Try.func39 (by kernel_rfl) (by kernel_rfl) (by kernel_rfl) (e := Extern.AbiNoEscape.same) (by kernel_rfl)]
  rw [Lib.run_noEscape]
  simp only [Result.andThen]
  rw [Oper.upon_value]
  go_wp2
  rw [Lib.run_from_unsafe w ⟨b, 0, none⟩ Try.underlying56 Try.underlying44 hj hsh (by kernel_rfl)]
  simp only [Result.andThen]
  rw [Oper.upon_value]
  go_wp2
  go_end0
  exact ⟨rfl, rfl⟩

/-- a builder in block b that holds these bytes; what lies below B is as it was in w0 -/
def Bld (B b : Nat) (l : List UInt8) (w0 w : World) : Prop := (∃ p, (p = .pointer none ∨ p = .pointer (some ⟨b, 0, none⟩)) ∧ Lib.BuilderAt 46 5 B b p (u8v l) w) ∧ Below B w0 w
theorem copyCheck_any (B b : Nat) (l : List UInt8) (w0 w : World) (h : Bld B b l w0 w) :
    Calls Try.prog 37 #[.pointer (some ⟨b, 0, none⟩)] w fun e w' => e = .returned (.tuple #[]) ∧ Lib.BuilderAt 46 5 B b (.pointer (some ⟨b, 0, none⟩)) (u8v l) w' ∧ Below B w0 w' := by
  obtain ⟨⟨p, rfl | rfl, h⟩, hb⟩ := h
  · refine (copyCheck_fresh b w h.cell0 h.shape h.frozen0).mono ?_
    rintro e w' ⟨rfl, rfl⟩
    exact ⟨rfl, h.used _, hb.setCell (p := ⟨b, 0, none⟩) h.1 _⟩
  · refine (copyCheck_used b w h.cell0).mono ?_
    rintro e w' ⟨rfl, rfl⟩
    exact ⟨rfl, h, hb⟩

theorem bld_open {B b : Nat} {p : Value} {l : List UInt8} {w : World} (h : Lib.BuilderAt 46 5 B b p (u8v l) w) :
    ∃ A cp, B ≤ b ∧ b < w.heap.size ∧ w.heap[b]? = some (.cells #[p, .slice A l.length cp] 46 (0, 0)) ∧ Own8 5 w B (.slice A l.length cp) l ∧ (Value.slice A l.length cp).ownBlock ≠ some b ∧ w.cell? ⟨b, 1, none⟩ = some (.slice A l.length cp) := by
  obtain ⟨hBb, v, hheap, hown, hne⟩ := h
  have hown8 : Own8 5 w B v l := by unfold Own8; rw [← u8v_length l]; exact hown
  obtain ⟨A, cp, rfl⟩ := hown8.slice
  exact ⟨A, cp, hBb, (Array.getElem?_eq_some_iff.1 hheap).1, hheap, hown8, hne, by rw [cell_of_row w b 1 _ _ _ hheap]; rfl⟩
theorem bld_far {b : Nat} {p v : Value} {w1 w2 : World} {T : TypeId} (h : w1.heap[b]? = some (.cells #[p, v] T (0, 0))) (h2 : w2.heap[b]? = w1.heap[b]?) :
    w2.heap[b]? = some (.cells #[p, v] T (0, 0)) ∧ w2.cell? ⟨b, 1, none⟩ = some v ∧ w2.frozen? ⟨b, 1, none⟩ = false := by
  rw [h] at h2
  exact ⟨h2, by rw [cell_of_row w2 b 1 _ _ _ h2]; rfl, frozen_of_row w2 b 1 _ _ h2⟩
def BldRes (B b : Nat) (l : List UInt8) (v : Value) (w0 : World) (e : Ending) (w' : World) : Prop := e = .returned v ∧ Bld B b l w0 w'
set_option maxHeartbeats 800000 in
theorem writeByte_any (B b : Nat) (l : List UInt8) (c : UInt8) (w0 w : World) (h : Bld B b l w0 w) (hlen : l.length + 1 ≤ 140737488355328) :
    Calls Try.prog 33 #[.pointer (some ⟨b, 0, none⟩), .int .u8 (n8 c)] w (BldRes B b (l ++ [c]) .nilIface w0) := by
  have hBw : B ≤ w.heap.size := by
    obtain ⟨⟨p, _, h⟩, _⟩ := h
    have := h.lt; have := h.1; omega
  have HC := Lib.hid (copyCheck_any B b l w0 w h)
  clear h
  go_enter Try.func33, Try.ntmps33
  go_wp2_with (first
    | (go_at_call 37; refine HC.out.mono ?_; rintro e w1 ⟨rfl, hat, hb1⟩; obtain ⟨A, cp, hBb, hlt, hheap, hown8, hne, hc1⟩ := bld_open hat; clear hat; have HH := Lib.hid hheap; clear hheap)
    | (at_builtin; refine wpList_append8 Try.underlying23 Try.info8 (by rfl) (.tmp 11) (.tmp 13) (by rfl) B _ l (by rfl) (hown8.alloc _) w1.heap.size c (by rfl) (by go_simp) hlen (by simp; omega) ?_; intro g cap w2 hown2 hg2 hat2 hlt2; obtain ⟨hrow2, hc2, hf2⟩ := bld_far (w1 := w1) HH.out (by rw [hg2.block b (by simp; omega) (Ne.symm hne), heap_alloc_old w1 _ hlt]); have HH2 := Lib.hid hrow2; clear hrow2))
  go_ret
  have hgb : g ≠ b := by
    rcases hat2 with h | h
    · rintro rfl; exact hne h
    · simp at h; omega
  refine ⟨rfl, ⟨_, .inr rfl, hBb, .slice (some ⟨g, 0, none⟩) (l.length + 1) cap, ?_, ?_, ?_⟩, ?_⟩
  · simp [World.setCell, Array.getElem?_modify, HH2.out]
  · have := hown2.setCell_other (a := ⟨b, 1, none⟩) (by simpa [Value.ownBlock] using hgb) (.slice (some ⟨g, 0, none⟩) (l.length + 1) cap)
    unfold Own8 at this
    rw [u8v_length]; exact this
  · simpa [Value.ownBlock] using hgb
  · exact (below_append (hb1.alloc (by omega) _) (hown8.alloc _) hg2 (Nat.le_refl _) (by simp; omega)).setCell (p := ⟨b, 1, none⟩) hBb _

theorem byteCells_u8v (l : List UInt8) : Lib.byteCells l = u8v l := by
  rw [u8v_def]; simp only [Lib.byteCells, n8_def]
def StrRes (B : Nat) (l : List UInt8) (w0 : World) (e : Ending) (w' : World) : Prop := e = .returned (.string ⟨l.toArray⟩) ∧ Below B w0 w'
theorem string_any (B b : Nat) (l : List UInt8) (w0 w : World) (h : Bld B b l w0 w) :
    Calls Try.prog 34 #[.pointer (some ⟨b, 0, none⟩)] w (StrRes B l w0) := by
  obtain ⟨⟨p, hp, h⟩, hb⟩ := h
  have hlt := h.lt
  have hB := h.1
  rw [← byteCells_u8v] at h
  have hi : Lib.IsBuilder 46 5 B b (Lib.byteCells l) w := by
    rcases hp with rfl | rfl
    · exact .inl h
    · exact .inr h
  refine (Try.Builder_String_any B b l w hi (by omega)).mono ?_
  rintro e w' ⟨rfl, h'⟩
  exact ⟨rfl, hb.trans h'⟩
/-- a builder that has just been laid -/
theorem bld_new (w : World) : Bld w.heap.size w.heap.size [] w (w.alloc (.cells #[.pointer none, .slice none 0 0] 46)) :=
  ⟨⟨_, .inl rfl, Nat.le_refl _, .slice none 0 0, heap_alloc_new w _, ⟨by simp [u8v_def], .inl ⟨rfl, by simp [u8v_def]⟩⟩, by simp [Value.ownBlock]⟩, (Below.refl _ _).alloc (Nat.le_refl _) _⟩

/-! ### digits -/
/-- the sixteen digits -/
def hexD : List UInt8 := [48, 49, 50, 51, 52, 53, 54, 55, 56, 57, 97, 98, 99, 100, 101, 102]
theorem run_index_str {P : Program} {T : TypeId} (hT : P.underlying T = some .string) (l : List UInt8) (kd : IntKind) (i : Nat) (h : i < l.length) (w : World) :
    (Instr.index T (.string ⟨l.toArray⟩) (.int kd i)).run P w = .ok (.int .u8 (n8 (at8 l i))) w := by
  have e : (⟨l.toArray⟩ : ByteArray)[i]? = some (at8 l i) := by
    rw [at8_get l i h]
    have : i < (⟨l.toArray⟩ : ByteArray).size := by simpa [ByteArray.size] using h
    rw [getElem?_pos (⟨l.toArray⟩ : ByteArray) i this]
    rfl
  simp only [Instr.index, asIntOf, Sem.run_bind, Sem.run_pure, Result.andThen_ok, run_underlying hT]
  simp [e, n8_def]
theorem div16 (x : UInt8) : n8 x / 16 = ((x.toNat / 16 : Nat) : Int) := by rw [n8_def]; omega
theorem and15 (x : UInt8) : bits .and .u8 (n8 x) 15 = ((x.toNat % 16 : Nat) : Int) := by
  have h : (15 : Int) = n8 15 := by rw [n8_def]; rfl
  rw [h, u8_and, n8_def, UInt8.toNat_and]
  have := Nat.and_two_pow_sub_one_eq_mod x.toNat 4
  simp at this ⊢
  omega
def hexPair (b : UInt8) : List UInt8 := [at8 hexD (b.toNat / 16), at8 hexD (b.toNat % 16)]
def hexB (l : List UInt8) : List UInt8 := l.flatMap hexPair
theorem hexB_length (l : List UInt8) : (hexB l).length = 2 * l.length := by
  induction l with
  | nil => rfl
  | cons b l ih => simp [hexB, hexPair] at ih ⊢; omega
theorem hexB_snoc (l : List UInt8) (b : UInt8) : hexB (l ++ [b]) = hexB l ++ [at8 hexD (b.toNat / 16)] ++ [at8 hexD (b.toNat % 16)] := by
  simp [hexB, hexPair]
set_option maxHeartbeats 800000 in
theorem hex_any (A : Option Addr) (c : Nat) (l : List UInt8) (hc : l.length ≤ c) (hm : l.length ≤ 35184372088832) (w : World) (hr : Rd8 w w.heap.size A l) :
    Calls Try.prog 13 #[.slice A l.length c] w (StrRes w.heap.size (hexB l) w) := by
  have HR := Lib.hid hr; clear hr
  have HB0 := Lib.hid (bld_new w)
  go_enter Try.func13, Try.ntmps13
  go_wp2
  go_loopw [5, 8] (fun _ i wr => ∃ k : Nat, k ≤ l.length ∧ i = .int .i64 k ∧ Bld w.heap.size w.heap.size (hexB (l.take k)) w wr) (fun _ i _ => l.length - (intOf i).toNat)
  case atStart => exact ⟨0, Nat.zero_le _, rfl, HB0.out⟩
  case round =>
    obtain ⟨k, hk, rfl, hbld⟩ := hrel
    have HB := Lib.hid hbld
    by_cases hlt : k < l.length
    · obtain ⟨g, o, rfl, hg, hcell⟩ := HR.out (by omega)
      have hck := (hbld.2.cell (p := ⟨g, o + k, none⟩) hg).trans (hcell k (by omega))
      clear hcell hbld
      obtain ⟨d1, e1⟩ : ∃ d, d = (at8 l k).toNat / 16 := ⟨_, rfl⟩
      obtain ⟨d2, e2⟩ : ∃ d, d = (at8 l k).toNat % 16 := ⟨_, rfl⟩
      have E : hexB (l.take (k + 1)) = hexB (l.take k) ++ [at8 hexD d1] ++ [at8 hexD d2] := by rw [take_succ8 _ _ hlt, hexB_snoc, e1, e2]
      have hd := div16 (at8 l k)
      have ha := and15 (at8 l k)
      rw [← e1] at hd
      rw [← e2] at ha
      have hd1 : d1 < 16 := by have := (at8 l k).toNat_lt; omega
      have hd2 : d2 < 16 := by omega
      have hx1 := fun w => run_index_str Try.underlying9 hexD .u8 d1 (by simpa [hexD] using hd1) w
      have hx2 := fun w => run_index_str Try.underlying9 hexD .u8 d2 (by simpa [hexD] using hd2) w
      generalize at8 hexD d1 = x1 at *
      generalize at8 hexD d2 = x2 at *
      have hxl : (hexB (l.take k)).length ≤ 70368744177664 := by rw [hexB_length]; simp; omega
      have HE := Lib.hid E
      clear e1 e2 E
      simp only [hexD] at hx1 hx2
      go_wp2_with (first
        | (go_at_call_of 33 (Value.int .u8 (n8 x1)); refine (writeByte_any _ _ _ _ _ _ HB.out (by omega)).mono ?_; rintro e w1 ⟨rfl, hb1⟩; have HB1 := Lib.hid hb1; clear hb1)
        | (go_at_call_of 33 (Value.int .u8 (n8 x2)); refine (writeByte_any _ _ _ _ _ _ HB1.out (by simp; omega)).mono ?_; rintro e w2 ⟨rfl, hb2⟩; have HB2 := Lib.hid hb2; clear hb2))
      exact ⟨⟨k + 1, by omega, by go_num, by rw [HE.out]; exact HB2.out⟩, by simp [intOf]; omega⟩
    · rw [List.take_of_length_le (by omega)] at HB
      go_wp2_with (go_at_call 34; refine (string_any _ _ _ _ _ HB.out).mono ?_; rintro e w1 ⟨rfl, hb1⟩)
      go_ret
      exact ⟨rfl, hb1⟩
end Go.Proofs.Ytojnjaedfbokmaa
