/- A meter's Alike where all its inputs are the same. -/
import Derived.Test.YtopmdbmnlflpgaaDoorKeep3
namespace Go.Proofs.YtopmdbmnlflpgaaDoor
open Go.RowKit
theorem MapK.ne_row {w : World} {r k q : Nat} {D : List UInt8} {cs : Array Value} (h : MapK w r D k) (hr : RowIs w q cs) : q ≠ r := by
  rintro rfl
  obtain ⟨t, ht⟩ := hr.row.heap
  obtain ⟨c, h1, _⟩ := h
  rw [ht] at h1
  cases h1
def AlikeRes (g base : Nat) (n : Int) (v : Value) (ks : BL) (w : World) (e : Ending) (w' : World) : Prop :=
  e = .returned (.tuple #[.slice none 0 0, .slice none 0 0, .bool false]) ∧ Met w' g n true v ∧ OwnL w' base v ks ∧ Upd g w w'
set_option maxRecDepth 100000 in
set_option maxHeartbeats 1600000 in
theorem alike_any (g base : Nat) (n : Int) (v : Value) (F : List UInt8) (m : Nat) (ks : BL) (w : World) (hks : ks = List.replicate m F) (hm : Met w g n true v) (hown : OwnL w base v ks) (he : ShaEnv w) (hmm : m ≤ 1000) (hF : F.length ≤ 17592186044416) :
    Calls Tryd.prog 38 #[.pointer (some ⟨g, 0, none⟩)] w (AlikeRes g base n v ks w) := by
  have hkm : ks.length = m := by rw [hks, List.length_replicate]
  have hnth : ∀ i, i < m → nthL ks i = F := fun i hi => by rw [hks, nthL_def, List.getD_eq_getElem?_getD, List.getElem?_replicate, if_pos hi]; rfl
  have hin := inputs_any g base n v ks w hm hown (by omega)
  obtain ⟨D, hD⟩ : ∃ D, D = shaB F := ⟨_, rfl⟩
  have hDl : D.length = 32 := by rw [hD, shaB_length]
  have cs := fun v (w : World) h1 h2 h3 => sum_any v F w h1 hF h2 h3
  rw [← hD] at cs
  have CS := Lib.hid cs
  have HN := Lib.hid hnth
  have HKM := Lib.hid hkm
  have HIN := Lib.hid hin
  have hm0 := hm
  clear cs hnth hkm hin hD hm hown hks
  go_enter Tryd.func38, Tryd.ntmps38
  go_wp2_with fail
  refine HIN.out.mono ?_
  rintro e w1 ⟨u, rfl, hm1, ho1, hu1, hu⟩
  replace he := he.upd hm0 hu
  have hbl := hu1.bsl (by rw [HKM.out]; omega)
  obtain ⟨Au, cu, rfl, hcu⟩ := hu1.slice
  rw [HKM.out] at hbl hcu ⊢
  have HBL := Lib.hid hbl
  clear hbl hu1 hm0
  have hq : Below w1.heap.size w1 (w1.alloc (.map #[] 0)) := (by repeat (first | with_reducible exact Below.refl _ _ | with_reducible assumption | refine Below.drew ?_ | refine below_drewN ?_ | refine Below.alloc ?_ (by first | omega | (simp; done) | (simp; omega)) _ | refine below_setRow ?_ (by omega) _ | refine Below.setCell ?_ (by first | omega | (simp; done) | (simp; omega)) _))
  have hmp : MapK (w1.alloc (.map #[] 0)) w1.heap.size D 0 := ⟨0, by rw [heap_alloc_new]; rfl, fun _ => rfl⟩
  have hmk : (Instr.makeMap 139 none).run Tryd.prog w1 = .ok (.map (some w1.heap.size)) (w1.alloc (.map #[] 0)) := rfl
  replace he := he.step hq
  go_wp2_with fail
  go_loopw [17] (fun i wr => ∃ k : Nat, i = .int .i64 k ∧ k ≤ m ∧ MapK wr w1.heap.size D k ∧ ShaEnv wr ∧ Below w1.heap.size w1 wr) (fun i _ => m - (intOf i).toNat)
  case atStart => exact ⟨0, rfl, by omega, hmp, he, hq⟩
  case round =>
    clear hmp he hq
    obtain ⟨k, rfl, hk, hmp, he, hb⟩ := hrel
    have hsz := hb.size
    by_cases hlt : k < m
    · obtain ⟨A', c', e', -, -, hrd⟩ := HBL.out
      injection e' with e1 e2 e3
      obtain ⟨gl, ol, e4, hgl2, hat⟩ := hrd (by rw [HKM.out]; omega)
      obtain ⟨x, hx, hbx⟩ := hat k (by rw [HKM.out]; exact hlt)
      obtain ⟨y, hy, hby⟩ := hat 0 (by rw [HKM.out]; omega)
      rw [← e1] at e4
      subst e4
      clear e1 e2 e3 hrd hat
      rw [HN.out k hlt] at hbx
      rw [HN.out 0 (by omega)] at hby
      have f0 := (hb.cell (p := ⟨gl, ol + k, none⟩) hgl2).trans hx
      have hbx' := hbx.step hb
      have hk0 : (0 : Int) ≤ (k : Int) := by omega
      have hk1 : (k : Int) < m := by omega
      have hm1' : (0 : Int) < m := by omega
      have hwk : IntKind.i64.wrap ((k : Int) + 1) = ((k + 1 : Nat) : Int) := by rw [IntKind.wrap_i64]; omega
      go_wp2_with fail
      refine (CS.out _ _ hbx' he.rounds he.start).mono ?_
      rintro e wa ⟨rfl, hba⟩
      replace hmp := hmp.step hba
      replace he := he.step hba
      replace hb := hb.trans (hba.mono hsz)
      have hq : Below wa.heap.size wa (wa.alloc (.cells (u8s D) 33)) := (by repeat (first | with_reducible exact Below.refl _ _ | with_reducible assumption | refine Below.drew ?_ | refine below_drewN ?_ | refine Below.alloc ?_ (by first | omega | (simp; done) | (simp; omega)) _ | refine below_setRow ?_ (by omega) _ | refine Below.setCell ?_ (by first | omega | (simp; done) | (simp; omega)) _))
      have RK : RowIs (wa.alloc (.cells (u8s D) 33)) wa.heap.size (u8s D) := RowIs.new _ _ _
      have L1 := sload RK hDl
      replace hmp := hmp.step hq
      replace he := he.step hq
      replace hb := hb.trans (hq.mono hb.size)
      clear hba hq hbx' f0
      cases k with
      | zero =>
        have L2 := look_none hmp hDl
        obtain ⟨w4, L3, hmp4, hu4⟩ := put_one hmp hDl
        go_wp2_with fail
        exact ⟨⟨1, by go_num, by omega, hmp4, ⟨he.rounds.upd hu4 (hmp.ne_row he.rounds), he.start.upd hu4 (hmp.ne_row he.start)⟩, Upd.below hb hu4 (Nat.le_refl _) hb.size⟩, by simp [intOf]; omega⟩
      | succ k =>
        have L2 := look_one hmp hDl
        have f0 := (hb.cell (p := ⟨gl, ol, none⟩) hgl2).trans (show w1.cell? ⟨gl, ol, none⟩ = some y by simpa using hy)
        have hx' := hbx.step hb
        have hy' := hby.step hb
        go_wp2_with fail
        refine (equal_bs hy' hx').mono ?_
        rintro e wb ⟨rfl, rfl⟩
        go_wp2_with fail
        exact ⟨⟨k + 1 + 1, by go_num, by omega, by obtain ⟨c, h1, _⟩ := hmp; exact ⟨c, h1, fun h => by omega⟩, he, hb⟩, by simp [intOf]; omega⟩
    · have ek : k = m := by omega
      subst ek
      have hne : ¬ ((k : Int) < k) := by omega
      go_wp2_with fail
      refine bodyPost_ret (results_tmp3 rfl _ _ _) rfl ?_
      exact ⟨rfl, hm1.step hb, ho1.step hb, hu.then hb⟩
end Go.Proofs.YtopmdbmnlflpgaaDoor
