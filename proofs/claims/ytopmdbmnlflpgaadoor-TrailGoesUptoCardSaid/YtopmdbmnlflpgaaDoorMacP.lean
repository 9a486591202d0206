/- Layer 3: a key as a block. -/
import Derived.Test.YtopmdbmnlflpgaaDoorLog
namespace Go.Proofs.YtopmdbmnlflpgaaDoor
open Go.RowKit
/-- a key as a block, each byte mixed with one -/
@[irreducible] def padK (k : List UInt8) (c : UInt8) : List UInt8 := (k ++ zeros (64 - k.length)).map (fun b => b ^^^ c)
theorem padK_def (k : List UInt8) (c : UInt8) : padK k c = (k ++ zeros (64 - k.length)).map (fun b => b ^^^ c) := by unfold padK; rfl
theorem padK_length (k : List UInt8) (c : UInt8) (h : k.length ≤ 64) : (padK k c).length = 64 := by rw [padK_def, List.length_map, List.length_append, zeros_length]; omega
@[irreducible] def keyB (k : List UInt8) : List UInt8 := if 64 < k.length then shaB k else k
theorem keyB_big (k : List UInt8) (h : 64 < k.length) : keyB k = shaB k := by unfold keyB; rw [if_pos h]
theorem keyB_small (k : List UInt8) (h : k.length ≤ 64) : keyB k = k := by unfold keyB; rw [if_neg (by omega)]
theorem keyB_length (k : List UInt8) : (keyB k).length ≤ 64 := by
  by_cases h : 64 < k.length
  · rw [keyB_big k h, shaB_length]; omega
  · rw [keyB_small k (by omega)]; omega
theorem padK_spl (k : List UInt8) (c : UInt8) (h : k.length ≤ 64) : (spl (zeros 64) 0 k).map (fun b => b ^^^ c) = padK k c := by
  rw [padK_def]
  congr 1
  unfold spl
  rw [List.take_zero, List.nil_append, Nat.zero_add, zeros_def, zeros_def, List.drop_replicate]
theorem at8_mapx (l : List UInt8) (c : UInt8) (x : Nat) (hx : x < l.length) : at8 (l.map (fun b => b ^^^ c)) x = at8 l x ^^^ c := by
  simp only [at8_def, List.getD_eq_getElem?_getD, List.getElem?_map]
  rw [List.getElem?_eq_getElem hx]; rfl
theorem MetB.mono {w : World} {g : Nat} {N M : Int} (h : MetB w g N) (hM : N ≤ M) : MetB w g M := by obtain ⟨n, h0, h1, h2⟩ := h; exact ⟨n, h0, by omega, h2⟩
theorem LogB.mono {w : World} {g : Nat} {N M : Int} (h : LogB w g N) (hM : N ≤ M) : LogB w g M := by obtain ⟨n, h0, h1, h2⟩ := h; exact ⟨n, h0, by omega, h2⟩
def PadRes (g : Nat) (N : Int) (l : List UInt8) (w : World) (e : Ending) (w' : World) : Prop := ∃ v, e = .returned v ∧ Bs w' v l ∧ MetB w' g N ∧ Upd g w w'
theorem make64 (w : World) : (Instr.makeSlice 27 (.int .i64 64) (.int .i64 64)).run Tryd.prog w = .ok (.slice (some ⟨w.heap.size, 0, none⟩) 64 64) (w.alloc (.cells (u8s (zeros 64)) 5)) := by
  have := run_make8 Tryd.underlying27 Tryd.info8 64 (by omega) w
  rw [zeros_def]; exact this
set_option maxRecDepth 100000 in
set_option maxHeartbeats 1600000 in
theorem padded_any (g : Nat) (N : Int) (vk : Value) (key : List UInt8) (c : UInt8) (w : World) (hm : MetB w g N) (he : ShaEnv w) (hk : Bs w vk key) (hl : key.length ≤ 1000000) (hN : N ≤ 1000000) :
    Calls Tryd.prog 81 #[.pointer (some ⟨g, 0, none⟩), vk, .int .u8 (n8 c)] w (PadRes g (N + 1) (padK (keyB key) c) w) := by
  have hmk := make64
  by_cases h64 : 64 < key.length
  · have hfl : [key].flatten = key := by simp
    obtain ⟨D, hD⟩ : ∃ D, D = keyB key := ⟨_, rfl⟩
    have hsha : shaB [key].flatten = D := by rw [hfl, hD, keyB_big key h64]
    have hDl : D.length = 32 := by rw [← hsha, shaB_length]
    have HS := Lib.hid hsha
    have HFL := Lib.hid (show [key].flatten.length ≤ 17592186044416 by rw [hfl]; omega)
    have HCL : Hid (D.length ≤ 64) := Lib.hid (by omega)
    rw [← hD]
    clear hD hfl hsha
    have h64' : (64 : Int) < key.length := by omega
    obtain ⟨n, hn⟩ : ∃ n, key.length = n := ⟨_, rfl⟩
    have hk0 := hk
    obtain ⟨A, k, rfl, -, -, -⟩ := hk
    rw [hn] at hk0 h64' hl ⊢
    clear hn h64
    go_enter Tryd.func81, Tryd.ntmps81
    go_wp2_with fail
    have HB0 : Below w.heap.size w (w.alloc (.cells #[.slice A n k] 27)) := (by repeat (first | with_reducible exact Below.refl _ _ | with_reducible assumption | refine Below.drew ?_ | refine below_drewN ?_ | refine Below.alloc ?_ (by first | omega | (simp; done) | (simp; omega)) _ | refine below_setRow ?_ (by omega) _ | refine Below.setCell ?_ (by first | omega | (simp; done) | (simp; omega)) _))
    refine (msum_any g N _ [key] _ (hm.step HB0) (BsL.lit1 _ (by simp) hk0) HFL.out (he.step HB0) (by omega)).mono ?_
    rintro e w1 ⟨rfl, hm1, hu⟩
    rw [HS.out]
    replace hu := (Upd.of HB0).trans hu
    have hrs : Rd8 (w1.alloc (.cells (u8s D) 33)) (w1.heap.size + 1) (some ⟨w1.heap.size, 0, none⟩) D := by
      have := (RowIs.new w1 (u8s D) 33).rd
      simpa using this
    have HBk : Below w1.heap.size w1 (w1.alloc (.cells (u8s D) 33)) := (by repeat (first | with_reducible exact Below.refl _ _ | with_reducible assumption | refine Below.drew ?_ | refine below_drewN ?_ | refine Below.alloc ?_ (by first | omega | (simp; done) | (simp; omega)) _ | refine below_setRow ?_ (by omega) _ | refine Below.setCell ?_ (by first | omega | (simp; done) | (simp; omega)) _))
    clear hk0 he hm HB0 h64'
    have R8 : RowIs ((w1.alloc (.cells (u8s D) 33)).alloc (.cells (u8s (zeros 64)) 5)) (w1.heap.size + 1) (u8s (zeros 64)) := RowIs.new' (by simp)
    have HB8 : Below w1.heap.size w1 ((w1.alloc (.cells (u8s D) 33)).alloc (.cells (u8s (zeros 64)) 5)) := (by repeat (first | with_reducible exact Below.refl _ _ | with_reducible assumption | refine Below.drew ?_ | refine below_drewN ?_ | refine Below.alloc ?_ (by first | omega | (simp; done) | (simp; omega)) _ | refine below_setRow ?_ (by omega) _ | refine Below.setCell ?_ (by first | omega | (simp; done) | (simp; omega)) _))
    have hrs8 := hrs.below (show Below (w1.heap.size + 1) (w1.alloc (.cells (u8s D) 33)) ((w1.alloc (.cells (u8s D) 33)).alloc (.cells (u8s (zeros 64)) 5)) from (Below.refl _ _).alloc (by simp) _)
    have hcsl : (D).length ≤ 64 := HCL.out
    go_wp2_with (with_reducible refine copy_here ?_; (refine wpList_copy8 rfl (.tmp 19) (.tmp 20) _ _ rfl 5 Tryd.underlying27 (by kernel_rfl) _ _ _ _ _ _ _ rfl rfl (zeros 64) (D) R8 (by omega) _ hrs8 (by rw [zeros_length]; omega) ?_); (have R9 := R8.set (u8s (spl (zeros 64) 0 (D)))); (have HB9 := below_setRow HB8 (show w1.heap.size ≤ w1.heap.size + 1 by omega) (u8s (spl (zeros 64) 0 (D)))); generalize World.setRow _ _ _ = w5 at R9 HB9 ⊢)
    obtain ⟨P, hP⟩ : ∃ P, P = spl (zeros 64) 0 (D) := ⟨_, rfl⟩
    have hPl : P.length = 64 := by rw [hP, spl_length _ _ _ (by rw [zeros_length]; omega), zeros_length]
    have HPX : Hid (P.map (fun b => b ^^^ c) = padK (D) c) := Lib.hid (by rw [hP]; exact padK_spl _ _ hcsl)
    rw [← hP] at R9
    clear hP R8 HB8 hrs8 hcsl hrs
    go_wp2_with fail
    go_loopw [24, 9] (fun i _ wr => ∃ (j : Nat) (l : List UInt8), j ≤ 64 ∧ i = .int .i64 j ∧ l.length = 64 ∧ RowIs wr (w1.heap.size + 1) (u8s l) ∧ (∀ x, x < 64 → at8 l x = if x < j then at8 P x ^^^ c else at8 P x) ∧ Below w1.heap.size w1 wr) (fun i _ _ => 64 - (intOf i).toNat)
    case atStart => exact ⟨0, P, by omega, rfl, hPl, R9, fun x _ => by simp, HB9⟩
    case round =>
      clear R9 HB9
      obtain ⟨j, l, hj, rfl, hll, R9, hlx, HB9⟩ := hrel
      have HLX := Lib.hid hlx
      clear hlx
      by_cases hj64 : j < 64
      · have hj0 : (0 : Int) ≤ j := by omega
        have hj1 : (j : Int) < 64 := by omega
        have c9 := R9.c8 j (by omega)
        have f9 := R9.fz j
        have e9 := HLX.out j hj64
        rw [if_neg (by omega)] at e9
        rw [e9] at c9
        have hgl := R9.lt
        clear e9
        go_wp2_with fail
        refine ⟨⟨j + 1, l.set j (at8 P j ^^^ c), by omega, by go_num, by rw [List.length_set]; exact hll, by rw [← u8s_set]; exact R9.put j _, fun x hx => ?_, HB9.setCell (by first | omega | (simp; done) | (simp; omega)) _⟩, by simp [intOf]; omega⟩
        rw [at8_set _ _ _ _ (by omega)]
        split
        · rename_i hjx; rw [if_pos (by omega), ← hjx]
        · rw [HLX.out x hx]
          by_cases hxj : x < j
          · rw [if_pos hxj, if_pos (by omega)]
          · rw [if_neg hxj, if_neg (by omega)]
      · have ej : j = 64 := by omega
        subst ej
        rw [show ((64 : Nat) : Int) = 64 from rfl]
        have hle : l = padK (D) c := by
          rw [← HPX.out]
          refine ext8' (by rw [hll, List.length_map, hPl]) fun x hx => ?_
          rw [HLX.out x (by omega), if_pos (by omega), at8_mapx _ _ _ (by omega)]
        have HLE := Lib.hid hle
        clear hle
        go_wp2_with fail
        go_ret
        exact ⟨_, rfl, by rw [← HLE.out]; exact Bs.row R9 64 64 hll.symm (by omega) (by omega), hm1.step HB9, hu.then HB9⟩
  · have h64' : ¬ (64 : Int) < key.length := by omega
    rw [keyB_small key (by omega)]
    have HCL : Hid (key.length ≤ 64) := Lib.hid (by omega)
    obtain ⟨n, hn⟩ : ∃ n, key.length = n := ⟨_, rfl⟩
    have hnl : n ≤ 64 := by omega
    obtain ⟨A, k, rfl, -, -, hrs⟩ := hk
    rw [hn] at h64' ⊢
    have HN := Lib.hid hn
    clear hl h64 he
    go_enter Tryd.func81, Tryd.ntmps81
    have R8 : RowIs (w.alloc (.cells (u8s (zeros 64)) 5)) (w.heap.size) (u8s (zeros 64)) := RowIs.new' (by simp)
    have HB8 : Below w.heap.size w (w.alloc (.cells (u8s (zeros 64)) 5)) := (by repeat (first | with_reducible exact Below.refl _ _ | with_reducible assumption | refine Below.drew ?_ | refine below_drewN ?_ | refine Below.alloc ?_ (by first | omega | (simp; done) | (simp; omega)) _ | refine below_setRow ?_ (by omega) _ | refine Below.setCell ?_ (by first | omega | (simp; done) | (simp; omega)) _))
    have hrs8 := hrs.below (show Below w.heap.size w (w.alloc (.cells (u8s (zeros 64)) 5)) from HB8)
    have hcsl : (key).length ≤ 64 := HCL.out
    go_wp2_with (with_reducible refine copy_here ?_; (refine wpList_copy8 rfl (.tmp 19) (.tmp 20) _ _ rfl 5 Tryd.underlying27 (by kernel_rfl) _ _ _ _ _ _ _ rfl rfl (zeros 64) (key) R8 (by omega) _ hrs8 (by rw [zeros_length]; omega) ?_); (have R9 := R8.set (u8s (spl (zeros 64) 0 (key)))); (have HB9 := below_setRow HB8 (show w.heap.size ≤ w.heap.size by omega) (u8s (spl (zeros 64) 0 (key)))); generalize World.setRow _ _ _ = w5 at R9 HB9 ⊢)
    obtain ⟨P, hP⟩ : ∃ P, P = spl (zeros 64) 0 (key) := ⟨_, rfl⟩
    have hPl : P.length = 64 := by rw [hP, spl_length _ _ _ (by rw [zeros_length]; omega), zeros_length]
    have HPX : Hid (P.map (fun b => b ^^^ c) = padK (key) c) := Lib.hid (by rw [hP]; exact padK_spl _ _ hcsl)
    rw [← hP] at R9
    clear hP R8 HB8 hrs8 hcsl hrs
    go_wp2_with fail
    go_loopw [24, 9] (fun i _ wr => ∃ (j : Nat) (l : List UInt8), j ≤ 64 ∧ i = .int .i64 j ∧ l.length = 64 ∧ RowIs wr (w.heap.size) (u8s l) ∧ (∀ x, x < 64 → at8 l x = if x < j then at8 P x ^^^ c else at8 P x) ∧ Below w.heap.size w wr) (fun i _ _ => 64 - (intOf i).toNat)
    case atStart => exact ⟨0, P, by omega, rfl, hPl, R9, fun x _ => by simp, HB9⟩
    case round =>
      clear R9 HB9
      obtain ⟨j, l, hj, rfl, hll, R9, hlx, HB9⟩ := hrel
      have HLX := Lib.hid hlx
      clear hlx
      by_cases hj64 : j < 64
      · have hj0 : (0 : Int) ≤ j := by omega
        have hj1 : (j : Int) < 64 := by omega
        have c9 := R9.c8 j (by omega)
        have f9 := R9.fz j
        have e9 := HLX.out j hj64
        rw [if_neg (by omega)] at e9
        rw [e9] at c9
        have hgl := R9.lt
        clear e9
        go_wp2_with fail
        refine ⟨⟨j + 1, l.set j (at8 P j ^^^ c), by omega, by go_num, by rw [List.length_set]; exact hll, by rw [← u8s_set]; exact R9.put j _, fun x hx => ?_, HB9.setCell (by first | omega | (simp; done) | (simp; omega)) _⟩, by simp [intOf]; omega⟩
        rw [at8_set _ _ _ _ (by omega)]
        split
        · rename_i hjx; rw [if_pos (by omega), ← hjx]
        · rw [HLX.out x hx]
          by_cases hxj : x < j
          · rw [if_pos hxj, if_pos (by omega)]
          · rw [if_neg hxj, if_neg (by omega)]
      · have ej : j = 64 := by omega
        subst ej
        rw [show ((64 : Nat) : Int) = 64 from rfl]
        have hle : l = padK (key) c := by
          rw [← HPX.out]
          refine ext8' (by rw [hll, List.length_map, hPl]) fun x hx => ?_
          rw [HLX.out x (by omega), if_pos (by omega), at8_mapx _ _ _ (by omega)]
        have HLE := Lib.hid hle
        clear hle
        go_wp2_with fail
        go_ret
        exact ⟨_, rfl, by rw [← HLE.out]; exact Bs.row R9 64 64 hll.symm (by omega) (by omega), (hm.step HB9).mono (by omega), Upd.of HB9⟩
end Go.Proofs.YtopmdbmnlflpgaaDoor
