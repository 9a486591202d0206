/- Layer 3: the chapter's examples. -/
import Derived.Test.YtopmdbmnlflpgaaDoorMacS
import Derived.Test.YtopmdbmnlflpgaaDoorAw2
import Derived.Lib.SmallJoins
namespace Go.Proofs.YtopmdbmnlflpgaaDoor
open Go.RowKit
def ExpRes (i : Int) (w : World) (e : Ending) (w' : World) : Prop := e = .returned (.tuple #[.slice none 0 0, .int .i64 i]) ∧ Below w.heap.size w w'
theorem expand_err (p vi : Value) (k : List UInt8) (n : Int) (hn : n < 0 ∨ 8160 < n) (w : World) : Calls Tryd.prog 30 #[p, .agg (u8s k), vi, .int .i64 n] w (ExpRes 1 w) := by
  by_cases h0 : n < 0
  · go_enter Tryd.func30, Tryd.ntmps30
    go_wp2_with fail
    refine bodyPost_ret (results_tmp2 rfl _ _ _) rfl ?_
    exact ⟨rfl, (by repeat (first | with_reducible exact Below.refl _ _ | with_reducible assumption | refine Below.drew ?_ | refine below_drewN ?_ | refine Below.alloc ?_ (by first | omega | (simp; done) | (simp; omega)) _ | refine below_setRow ?_ (by omega) _ | refine Below.setCell ?_ (by first | omega | (simp; done) | (simp; omega)) _))⟩
  · have h1 : 8160 < n := by omega
    go_enter Tryd.func30, Tryd.ntmps30
    go_wp2_with fail
    refine bodyPost_ret (results_tmp2 rfl _ _ _) rfl ?_
    exact ⟨rfl, (by repeat (first | with_reducible exact Below.refl _ _ | with_reducible assumption | refine Below.drew ?_ | refine below_drewN ?_ | refine Below.alloc ?_ (by first | omega | (simp; done) | (simp; omega)) _ | refine below_setRow ?_ (by omega) _ | refine Below.setCell ?_ (by first | omega | (simp; done) | (simp; omega)) _))⟩
theorem expand_nil (p vi : Value) (k : List UInt8) (w : World) : Calls Tryd.prog 30 #[p, .agg (u8s k), vi, .int .i64 0] w (ExpRes 0 w) := by
  go_enter Tryd.func30, Tryd.ntmps30
  go_wp2_with fail
  refine bodyPost_ret (results_tmp2 rfl _ _ _) rfl ?_
  exact ⟨rfl, (by repeat (first | with_reducible exact Below.refl _ _ | with_reducible assumption | refine Below.drew ?_ | refine below_drewN ?_ | refine Below.alloc ?_ (by first | omega | (simp; done) | (simp; omega)) _ | refine below_setRow ?_ (by omega) _ | refine Below.setCell ?_ (by first | omega | (simp; done) | (simp; omega)) _))⟩
theorem refOfHigh_at {w : World} {a : Value} {l : List UInt8} (ha : Bs w a l) (x : Int) (hx : n64 (numK l (min l.length 8)) = x) : Calls Tryd.prog 28 #[a] w fun e w' => e = .returned (.int .u64 x) ∧ w = w' := by
  subst hx; exact refOfHigh_bs ha
def jefe : List UInt8 := [74, 101, 102, 101]
def for12 : List UInt8 := [102, 111, 114, 32, 110, 111, 116, 104, 105, 110, 103, 63]
def what16' : List UInt8 := [119, 104, 97, 116, 32, 100, 111, 32, 121, 97, 32, 119, 97, 110, 116, 32]
theorem mac_aw : (macB jefe [what16', for12].flatten).take 4 = [0x5b, 0xdc, 0xc1, 0x46] ∧ (macB jefe [what16', for12].flatten).drop 28 = [0x64, 0xec, 0x38, 0x43] := by decide +kernel
theorem aw_m1 : n64 (numK ((macB jefe [what16', for12].flatten).take 4) (min ((macB jefe [what16', for12].flatten).take 4).length 8)) = 1541194054 := by rw [mac_aw.1, n64_def]; decide +kernel
theorem aw_m2 : n64 (numK ((macB jefe [what16', for12].flatten).drop 28) (min ((macB jefe [what16', for12].flatten).drop 28).length 8)) = 1693202499 := by rw [mac_aw.2, n64_def]; decide +kernel
theorem blit4 {w : World} {g : Nat} (T : TypeId) (hg : g = w.heap.size) : Bs (w.alloc (.cells #[.int .u8 74, .int .u8 101, .int .u8 102, .int .u8 101] T)) (.slice (some ⟨g, 0, none⟩) 4 4) jefe := by
  rw [show #[Value.int .u8 74, .int .u8 101, .int .u8 102, .int .u8 101] = u8s jefe by simp [u8s_def, n8_def, jefe]]; exact Bs.lit _ _ hg rfl (by omega)
theorem Bs.litF {w : World} {g n : Nat} (l : List UInt8) (T : TypeId) (fr : Nat × Nat) (hg : g = w.heap.size) (hn : l.length = n) (hm : n ≤ 1000) : Bs (w.alloc (.cells (u8s l) T fr)) (.slice (some ⟨g, 0, none⟩) n n) l :=
  Bs.of' hn (Nat.le_refl _) (by omega) fun _ => ⟨g, 0, rfl, by rw [hg]; simp, fun i hi => by rw [Nat.zero_add, Go.Joins.cell_alloc_mark_at w _ T fr g i hg]; exact u8s_get l i hi⟩
theorem blit16 {w : World} {g : Nat} (T : TypeId) (fr : Nat × Nat) (hg : g = w.heap.size) : Bs (w.alloc (.cells #[.int .u8 119, .int .u8 104, .int .u8 97, .int .u8 116, .int .u8 32, .int .u8 100, .int .u8 111, .int .u8 32, .int .u8 121, .int .u8 97, .int .u8 32, .int .u8 119, .int .u8 97, .int .u8 110, .int .u8 116, .int .u8 32] T fr)) (.slice (some ⟨g, 0, none⟩) 16 16) what16' := by
  rw [show (#[.int .u8 119, .int .u8 104, .int .u8 97, .int .u8 116, .int .u8 32, .int .u8 100, .int .u8 111, .int .u8 32, .int .u8 121, .int .u8 97, .int .u8 32, .int .u8 119, .int .u8 97, .int .u8 110, .int .u8 116, .int .u8 32] : Array Value) = u8s what16' by simp [u8s_def, n8_def, what16']]; exact Bs.litF _ _ _ hg rfl (by omega)
theorem blit12 {w : World} {g : Nat} (T : TypeId) (fr : Nat × Nat) (hg : g = w.heap.size) : Bs (w.alloc (.cells #[.int .u8 102, .int .u8 111, .int .u8 114, .int .u8 32, .int .u8 110, .int .u8 111, .int .u8 116, .int .u8 104, .int .u8 105, .int .u8 110, .int .u8 103, .int .u8 63] T fr)) (.slice (some ⟨g, 0, none⟩) 12 12) for12 := by
  rw [show (#[.int .u8 102, .int .u8 111, .int .u8 114, .int .u8 32, .int .u8 110, .int .u8 111, .int .u8 116, .int .u8 104, .int .u8 105, .int .u8 110, .int .u8 103, .int .u8 63] : Array Value) = u8s for12 by simp [u8s_def, n8_def, for12]]; exact Bs.litF _ _ _ hg rfl (by omega)
theorem MetB.new {w : World} {g : Nat} (h : Met w g 0 false (.slice none 0 0)) : MetB w g 0 := ⟨0, by omega, by omega, h⟩
set_option maxRecDepth 100000 in
set_option maxHeartbeats 1600000 in
theorem awake3_any (w : World) (he : ShaEnv w) : Calls Tryd.prog 29 #[] w (TrueRes' w) := by
  obtain ⟨K, hK⟩ : ∃ K, K = macB jefe [what16', for12].flatten := ⟨_, rfl⟩
  have n1 := aw_m1
  have n2 := aw_m2
  have kl : K.length = 32 := by rw [hK, macB_length]
  have mm := fun g vk vl (w : World) h1 h2 h3 h4 => mac_any g 0 vk vl jefe [what16', for12] w h1 h2 h3 h4 (by decide) (by decide) (by omega)
  unfold MSum at mm
  rw [← hK] at n1 n2 mm
  have N1 := Lib.hid n1; have N2 := Lib.hid n2
  have MM := Lib.hid mm
  clear hK n1 n2 mm
  go_enter Tryd.func29, Tryd.ntmps29
  go_wp2_with fail
  refine (new_any false _).mono ?_
  rintro e w1 ⟨g, rfl, hm0, hg, HB⟩
  have hm := MetB.new hm0
  replace he := he.step HB
  have hgl := hm.lt
  clear hm0
  have cv1 := Go.Joins.run_convert_bytes_const_at (P := Tryd.prog) (w1.alloc (.cells #[.int .u8 74, .int .u8 101, .int .u8 102, .int .u8 101] 5)) 27 5 #[.int .u8 119, .int .u8 104, .int .u8 97, .int .u8 116, .int .u8 32, .int .u8 100, .int .u8 111, .int .u8 32, .int .u8 121, .int .u8 97, .int .u8 32, .int .u8 119, .int .u8 97, .int .u8 110, .int .u8 116, .int .u8 32] 16 16 (w1.heap.size + 1) (by simp) Tryd.underlying27 Tryd.underlying5
  have cv2 := Go.Joins.run_convert_bytes_const_at (P := Tryd.prog) ((w1.alloc (.cells #[.int .u8 74, .int .u8 101, .int .u8 102, .int .u8 101] 5)).alloc (.cells #[.int .u8 119, .int .u8 104, .int .u8 97, .int .u8 116, .int .u8 32, .int .u8 100, .int .u8 111, .int .u8 32, .int .u8 121, .int .u8 97, .int .u8 32, .int .u8 119, .int .u8 97, .int .u8 110, .int .u8 116, .int .u8 32] 5 (16, 17))) 27 5 #[.int .u8 102, .int .u8 111, .int .u8 114, .int .u8 32, .int .u8 110, .int .u8 111, .int .u8 116, .int .u8 104, .int .u8 105, .int .u8 110, .int .u8 103, .int .u8 63] 12 12 (w1.heap.size + 1 + 1) (by simp) Tryd.underlying27 Tryd.underlying5
  go_wp2_with fail
  have q1 : Below w1.heap.size w1 ((((w1.alloc (.cells #[.int .u8 74, .int .u8 101, .int .u8 102, .int .u8 101] 5)).alloc (.cells #[.int .u8 119, .int .u8 104, .int .u8 97, .int .u8 116, .int .u8 32, .int .u8 100, .int .u8 111, .int .u8 32, .int .u8 121, .int .u8 97, .int .u8 32, .int .u8 119, .int .u8 97, .int .u8 110, .int .u8 116, .int .u8 32] 5 (16, 17))).alloc (.cells #[.int .u8 102, .int .u8 111, .int .u8 114, .int .u8 32, .int .u8 110, .int .u8 111, .int .u8 116, .int .u8 104, .int .u8 105, .int .u8 110, .int .u8 103, .int .u8 63] 5 (12, 13))).alloc (.cells #[.slice (some ⟨w1.heap.size + 1, 0, none⟩) 16 16, .slice (some ⟨w1.heap.size + 1 + 1, 0, none⟩) 12 12] 27)) := (by repeat (first | with_reducible exact Below.refl _ _ | with_reducible assumption | refine Below.drew ?_ | refine below_drewN ?_ | refine Below.alloc ?_ (by first | omega | (simp; done) | (simp; omega)) _ | refine below_setRow ?_ (by omega) _ | refine Below.setCell ?_ (by first | omega | (simp; done) | (simp; omega)) _))
  have q4 : Below (w1.alloc (.cells #[.int .u8 74, .int .u8 101, .int .u8 102, .int .u8 101] 5)).heap.size (w1.alloc (.cells #[.int .u8 74, .int .u8 101, .int .u8 102, .int .u8 101] 5)) ((((w1.alloc (.cells #[.int .u8 74, .int .u8 101, .int .u8 102, .int .u8 101] 5)).alloc (.cells #[.int .u8 119, .int .u8 104, .int .u8 97, .int .u8 116, .int .u8 32, .int .u8 100, .int .u8 111, .int .u8 32, .int .u8 121, .int .u8 97, .int .u8 32, .int .u8 119, .int .u8 97, .int .u8 110, .int .u8 116, .int .u8 32] 5 (16, 17))).alloc (.cells #[.int .u8 102, .int .u8 111, .int .u8 114, .int .u8 32, .int .u8 110, .int .u8 111, .int .u8 116, .int .u8 104, .int .u8 105, .int .u8 110, .int .u8 103, .int .u8 63] 5 (12, 13))).alloc (.cells #[.slice (some ⟨w1.heap.size + 1, 0, none⟩) 16 16, .slice (some ⟨w1.heap.size + 1 + 1, 0, none⟩) 12 12] 27)) := (by repeat (first | with_reducible exact Below.refl _ _ | with_reducible assumption | refine Below.drew ?_ | refine below_drewN ?_ | refine Below.alloc ?_ (by first | omega | (simp; done) | (simp; omega)) _ | refine below_setRow ?_ (by omega) _ | refine Below.setCell ?_ (by first | omega | (simp; done) | (simp; omega)) _))
  have q16 : Below ((w1.alloc (.cells #[.int .u8 74, .int .u8 101, .int .u8 102, .int .u8 101] 5)).alloc (.cells #[.int .u8 119, .int .u8 104, .int .u8 97, .int .u8 116, .int .u8 32, .int .u8 100, .int .u8 111, .int .u8 32, .int .u8 121, .int .u8 97, .int .u8 32, .int .u8 119, .int .u8 97, .int .u8 110, .int .u8 116, .int .u8 32] 5 (16, 17))).heap.size ((w1.alloc (.cells #[.int .u8 74, .int .u8 101, .int .u8 102, .int .u8 101] 5)).alloc (.cells #[.int .u8 119, .int .u8 104, .int .u8 97, .int .u8 116, .int .u8 32, .int .u8 100, .int .u8 111, .int .u8 32, .int .u8 121, .int .u8 97, .int .u8 32, .int .u8 119, .int .u8 97, .int .u8 110, .int .u8 116, .int .u8 32] 5 (16, 17))) (((w1.alloc (.cells #[.int .u8 74, .int .u8 101, .int .u8 102, .int .u8 101] 5)).alloc (.cells #[.int .u8 119, .int .u8 104, .int .u8 97, .int .u8 116, .int .u8 32, .int .u8 100, .int .u8 111, .int .u8 32, .int .u8 121, .int .u8 97, .int .u8 32, .int .u8 119, .int .u8 97, .int .u8 110, .int .u8 116, .int .u8 32] 5 (16, 17))).alloc (.cells #[.int .u8 102, .int .u8 111, .int .u8 114, .int .u8 32, .int .u8 110, .int .u8 111, .int .u8 116, .int .u8 104, .int .u8 105, .int .u8 110, .int .u8 103, .int .u8 63] 5 (12, 13))) := (by repeat (first | with_reducible exact Below.refl _ _ | with_reducible assumption | refine Below.drew ?_ | refine below_drewN ?_ | refine Below.alloc ?_ (by first | omega | (simp; done) | (simp; omega)) _ | refine below_setRow ?_ (by omega) _ | refine Below.setCell ?_ (by first | omega | (simp; done) | (simp; omega)) _))
  have hme := hm.step q1
  have hee := he.step q1
  refine (MM.out g _ _ _ hme hee ((blit4 _ rfl).step q4) (BsLx.of (BsL.lit2 (gg := w1.heap.size + 1 + 1 + 1) _ (by simp) ((blit16 (g := w1.heap.size + 1) _ (16, 17) (by simp)).step q16) (blit12 (g := w1.heap.size + 1 + 1) _ (12, 13) (by simp))) (by omega))).mono ?_
  rintro e w2 ⟨rfl, hm2, hu2⟩
  replace HB := hu2.below (HB.trans (q1.mono HB.size)) hg (by have := HB.size; simp; omega)
  clear cv1 cv2 q1 q4 q16 hme hee he hm hu2 hm2
  have hs2 := HB.size
  have R2 : RowIs (w2.alloc (.cells (u8s K) 33)) w2.heap.size (u8s K) := RowIs.new _ _ _
  replace HB := HB.alloc hs2 (.cells (u8s K) 33)
  go_wp2_with fail
  refine (expand_err _ _ (zeros 32) 8161 (by omega) _).mono ?_
  rintro e w3 ⟨rfl, hb3⟩
  replace R2 := R2.step hb3
  replace HB := HB.trans (hb3.mono HB.size)
  go_wp2_with fail
  refine (expand_nil _ _ (zeros 32) _).mono ?_
  rintro e w4 ⟨rfl, hb4⟩
  replace R2 := R2.step hb4
  replace HB := HB.trans (hb4.mono HB.size)
  clear hb3 hb4
  go_wp2_with fail
  refine (refOfHigh_at (Bs.part R2 0 4 32 (by omega) (by omega) (by omega)) _ N1.out).mono ?_
  rintro e w5 ⟨rfl, rfl⟩
  go_wp2_with fail
  refine (refOfHigh_at (l := K.drop 28) (by have := Bs.part R2 28 4 4 (by omega) (by omega) (by omega); rwa [List.take_of_length_le (by rw [List.length_drop]; omega)] at this) _ N2.out).mono ?_
  rintro e w5 ⟨rfl, rfl⟩
  go_wp2_with fail
  go_ret
  exact ⟨by simp, HB⟩
end Go.Proofs.YtopmdbmnlflpgaaDoor
