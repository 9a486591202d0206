/- Layer 2, the document's: what stands behind so many bytes. -/
import Derived.Test.YtopmdbmnlflpgaaDoorShaD
namespace Go.Proofs.YtopmdbmnlflpgaaDoor
open Go.RowKit
def lenOf' : Value → Nat
  | .slice _ n _ => n
  | _ => 0
theorem Own8.lit128 {T : TypeId} (w : World) {g base : Nat} (hg : g = w.heap.size) (hb : base ≤ w.heap.size) : Own8 T (w.alloc (.cells #[.int .u8 128] T)) base (.slice (some ⟨g, 0, none⟩) 1 1) [128] := by
  have := Own8.lit1 (T := T) w (128 : UInt8) hg hb
  rwa [show n8 128 = 128 by rw [n8_def]; rfl] at this
theorem refHigh_bs (n : UInt64) (k : Nat) (h8 : k ≤ 8) (i : Int) (hi : i = k) (w : World) : Calls Tryd.prog 73 #[.int .u64 (n64 n), .int .i64 i] w (BsRes w (lowB n k).reverse) := by
  subst hi
  have h := refHigh_any n (k : Int) w (by omega)
  rw [Int.toNat_natCast] at h
  exact h.mono fun _ _ h => OwnRes.bs h (by simp [lowB_length]; omega)
def padJ (j : Nat) : List UInt8 := 128 :: List.replicate j 0
theorem padJ_length (j : Nat) : (padJ j).length = j + 1 := by simp [padJ]
theorem padJ_succ (j : Nat) : padJ j ++ [0] = padJ (j + 1) := by
  unfold padJ
  rw [List.cons_append, List.replicate_succ', ]
set_option maxRecDepth 100000 in
set_option maxHeartbeats 1600000 in
theorem refPad_any (n : Nat) (hn : n ≤ 35184372088000) (w : World) :
    Calls Tryd.prog 24 #[.int .i64 n] w (BsRes w (padB n)) := by
  obtain ⟨z, hz⟩ : ∃ z, z = padZ n := ⟨_, rfl⟩
  obtain ⟨X, hX⟩ : ∃ X, X = UInt64.ofNat (8 * n) := ⟨_, rfl⟩
  have hz2 : z < 64 := by rw [hz]; unfold padZ; omega
  have hzt : ∀ j, j ≤ z → ((n + (j + 1) + 8) % 64 = 0 ↔ j = z) := fun j hj => by
    rw [hz] at hj ⊢; unfold padZ at hj ⊢; omega
  have hn0 : (0 : Int) ≤ n := by omega
  have hw0 : IntKind.u64.wrap (n : Int) = n := by rw [wrap_u64]; omega
  have hw1 : ((n : Int) * (8 : Int)) % (18446744073709551616 : Int) = n64 X := by rw [hX, n64_def, UInt64.toNat_ofNat']; omega
  have hw2 : IntKind.u64.wrap ((n : Int) * (8 : Int)) = n64 X := by rw [wrap_u64]; exact hw1
  obtain ⟨hb, hhb⟩ : ∃ hb, hb = (lowB X 8).reverse := ⟨_, rfl⟩
  have hbl : hb.length = 8 := by rw [hhb]; simp [lowB_length]
  have hhi := fun w => refHigh_bs X 8 (by omega) 8 rfl w
  rw [← hhb] at hhi
  have hpad : padB n = padJ z ++ hb := by rw [hz, hhb, hX]; simp [padB, padJ]
  obtain ⟨pb, hpb⟩ : ∃ pb, pb = padB n := ⟨_, rfl⟩
  rw [← hpb] at hpad ⊢
  have HH := Lib.hid hhi
  have HP := Lib.hid hpad.symm
  have HZ := Lib.hid hzt
  have HBL := Lib.hid hbl
  clear hz hX hpb hhb hhi hpad hzt hbl
  go_enter Tryd.func24, Tryd.ntmps24
  go_wp2_with fail
  go_loopw [3] (fun v wr => ∃ (j : Nat) (A : Option Addr) (c m : Nat), v = .slice A m c ∧ m = j + 1 ∧ j ≤ z ∧ Own8 5 wr w.heap.size (.slice A m c) (padJ j) ∧ Below w.heap.size w wr) (fun v _ => 100 - lenOf' v)
  case atStart => exact ⟨0, _, _, 1, rfl, rfl, by omega, Own8.lit128 w rfl (Nat.le_refl _), (by repeat (first | with_reducible exact Below.refl _ _ | with_reducible assumption | refine Below.drew ?_ | refine below_drewN ?_ | refine Below.alloc ?_ (by first | omega | (simp; done) | (simp; omega)) _ | refine below_setRow ?_ (by omega) _ | refine Below.setCell ?_ (by first | omega | (simp; done) | (simp; omega)) _))⟩
  case round =>
    obtain ⟨j, A, c, m, rfl, hm, hj, hown, HB⟩ := hrel
    have hzj := HZ.out j hj
    by_cases hlt : j < z
    · have hne : (((n : Int) + (m : Int) + (8 : Int)) % (64 : Int) != (0 : Int)) = true := by rw [bne_iff_ne]; omega
      have hsz := HB.size
      have hm72 : m ≤ 64 := by omega
      have HMJ := Lib.hid hm
      have hq : Below wr.heap.size wr (wr.alloc (.cells #[.int .u8 0] 5)) := (by repeat (first | with_reducible exact Below.refl _ _ | with_reducible assumption | refine Below.drew ?_ | refine below_drewN ?_ | refine Below.alloc ?_ (by first | omega | (simp; done) | (simp; omega)) _ | refine below_setRow ?_ (by omega) _ | refine Below.setCell ?_ (by first | omega | (simp; done) | (simp; omega)) _))
      have hone : Bs (wr.alloc (.cells #[.int .u8 0] 5)) (.slice (some ⟨wr.heap.size, 0, none⟩) 1 1) [0] := Bs.one (i := 0) 0 (by go_simp) (by rw [n8_def]; rfl) (by simp)
      have own1 := hown.step hq
      obtain ⟨M, hM⟩ : ∃ M, (padJ (j + 1)).length = M := ⟨_, rfl⟩
      have hMm : M = m + 1 := by rw [← hM, padJ_length]; omega
      have HMM := Lib.hid hMm
      have HMN := Lib.hid hM
      clear hzj hm hM hMm
      go_wp2_with (at_builtin; refine wpList_appendBs Tryd.underlying27 Tryd.info8 rfl (.tmp 14) (.tmp 15) rfl w.heap.size rfl own1 rfl hone (padJ_succ j) HMN.out (by have := HMM.out; omega) (by simp; omega) ?_; intro A1 c1 w2 own2 bel2)
      exact ⟨⟨j + 1, A1, c1, M, rfl, by rw [HMM.out, HMJ.out], by omega, own2, (HB.alloc hsz _).trans bel2⟩, by simp [lenOf']; have := HMM.out; omega⟩
    · have hjz : j = z := by omega
      have hne : (((n : Int) + (m : Int) + (8 : Int)) % (64 : Int) != (0 : Int)) = false := by
        have h := hzj.2 hjz
        rw [bne_eq_false_iff_eq]; omega
      have hsz := HB.size
      have hm72 : m ≤ 64 := by omega
      rw [hjz] at hown
      obtain ⟨L, hL⟩ : ∃ L, pb.length = L := ⟨_, rfl⟩
      have hLm : L ≤ 72 := by rw [← hL, ← HP.out, List.length_append, padJ_length, HBL.out]; omega
      have HLL := Lib.hid hL
      clear hzj hm hL hjz
      go_wp2_with fail
      refine (HH.out _).mono ?_
      rintro e w2 ⟨v2, rfl, hv2, hb2⟩
      have own2 := hown.step hb2
      replace HB := HB.trans (hb2.mono HB.size)
      have hsz := HB.size
      go_wp2_with (at_builtin; refine wpList_appendBs Tryd.underlying27 Tryd.info8 rfl (.tmp 17) (.tmp 21) rfl w.heap.size rfl own2 rfl hv2 HP.out HLL.out (by omega) hsz ?_; intro A3 c3 w3 own3 bel3)
      go_ret
      exact ⟨_, rfl, own3.bs (by rw [HLL.out]; omega), HB.trans bel3⟩
end Go.Proofs.YtopmdbmnlflpgaaDoor
