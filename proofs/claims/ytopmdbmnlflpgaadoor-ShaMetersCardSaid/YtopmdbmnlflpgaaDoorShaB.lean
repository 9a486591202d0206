/- Layer 2: the compression. -/
import Derived.Test.YtopmdbmnlflpgaaDoorShaW
import Derived.Test.YtopmdbmnlflpgaaDoorBs
namespace Go.Proofs.YtopmdbmnlflpgaaDoor
open Go.RowKit
theorem run_index32 {P : Program} {t e : TypeId} {n : Nat} (hu : P.underlying t = some (.array n e)) (he : P.underlying e = some (.int .u32)) (hs : (P.info? e).map (·.size) = some 1) (l : List UInt32) (k : Nat) (hl : l.length = n) (hk : k < n) (w : World) :
    (Instr.index t (.agg (u32s l)) (.int .i64 k)).run P w = .ok (.int .u32 (n32 (at32 l k))) w := by
  obtain ⟨i, hi, hs'⟩ := Option.map_eq_some_iff.1 hs
  have hp := run_part_int he w (u32s l) k _ (u32s_get l k (by omega))
  simp [Instr.index, asIntOf, run_underlying hu, sizeOf, typeInfo, hi, hs', hp, Result.andThen]
  omega
theorem RowIs.c32 {w : World} {g : Nat} {l : List UInt32} (h : RowIs w g (u32s l)) (j : Nat) (hj : j < l.length) : w.cell? ⟨g, j, none⟩ = some (.int .u32 (n32 (at32 l j))) := by
  have := h.cell j hj
  rwa [Nat.zero_add] at this
theorem u32_compl (x : UInt32) : bits .xor .u32 4294967295 (n32 x) = n32 (~~~x) := by
  have e : (4294967295 : Int) = n32 4294967295 := by rw [n32_def]; rfl
  rw [e, u32_xor]
  congr 1
theorem u32_compl' (x : UInt32) : bits .xor .u32 IntKind.u32.max (n32 x) = n32 (~~~x) := u32_compl x
theorem build8 (a b c d e f g h : UInt32) (w : World) : (buildK 23 #[(0, .int .u32 (n32 a)), (1, .int .u32 (n32 b)), (2, .int .u32 (n32 c)), (3, .int .u32 (n32 d)), (4, .int .u32 (n32 e)), (5, .int .u32 (n32 f)), (6, .int .u32 (n32 g)), (7, .int .u32 (n32 h))]).run Tryd.prog w = .ok (.value (.agg (u32s [a, b, c, d, e, f, g, h]))) w :=
  run_buildK (by rw [u32s_def]; change _ = _; kernel_rfl) w
attribute [local go_sem] u32_compl u32_compl' build8
theorem t1_fold (e f g h k w : UInt32) : h + (rotr e 6 ^^^ rotr e 11 ^^^ rotr e 25) + ((e &&& f) ^^^ (~~~e &&& g)) + k + w = t1Of e f g h k w := by unfold t1Of; rfl
theorem t2_fold (a b c : UInt32) : (rotr a 2 ^^^ rotr a 13 ^^^ rotr a 22) + ((a &&& b) ^^^ (a &&& c) ^^^ (b &&& c)) = t2Of a b c := by unfold t2Of; rfl
attribute [local go_sem] t1_fold t2_fold
theorem step_fold (s : List UInt32) (k w : UInt32) : [t1Of (at32 s 4) (at32 s 5) (at32 s 6) (at32 s 7) k w + t2Of (at32 s 0) (at32 s 1) (at32 s 2), at32 s 0, at32 s 1, at32 s 2,
    at32 s 3 + t1Of (at32 s 4) (at32 s 5) (at32 s 6) (at32 s 7) k w, at32 s 4, at32 s 5, at32 s 6] = shaStep s k w := by unfold shaStep; rfl
def Two (p q : Addr) (u v : Value) (w : World) : Prop := w.cell? p = some u ∧ w.cell? q = some v
set_option maxRecDepth 100000 in
set_option maxHeartbeats 1600000 in
theorem block_any (st : List UInt32) (bl : List UInt8) (hst : st.length = 8) (hbl : bl.length = 64) (w : World) (hrd : RowIs w 0 (u32s roundsL)) :
    Calls Tryd.prog 20 #[.agg (u32s st), .agg (u8s bl)] w (WRes w (shaBlock st bl)) := by
  obtain ⟨W, hW⟩ : ∃ W, W = schedK bl 64 := ⟨_, rfl⟩
  have hWl : W.length = 64 := by rw [hW, schedK_length]
  obtain ⟨S, hS⟩ : ∃ S : Nat → List UInt32, S = stepsK st bl := ⟨_, rfl⟩
  have S0 : Hid (st = S 0) := Lib.hid (by rw [hS]; rfl)
  have SL : Hid (∀ k, (S k).length = 8) := Lib.hid (by rw [hS]; exact stepsK_length st bl hst)
  have SS : Hid (∀ k, shaStep (S k) (at32 roundsL k) (at32 W k) = S (k + 1)) := Lib.hid (by rw [hS, hW]; intro k; rfl)
  obtain ⟨D, hD⟩ : ∃ D : Nat → List UInt32, D = addK st (S 64) := ⟨_, rfl⟩
  have D0 : Hid (S 64 = D 0) := Lib.hid (by rw [hD]; rfl)
  have DL : Hid (∀ k, (D k).length = 8) := Lib.hid (by rw [hD]; intro k; rw [addK_length]; exact SL.out 64)
  have DS : Hid (∀ k, (D k).set k (at32 (D k) k + at32 st k) = D (k + 1)) := Lib.hid (by rw [hD]; intro k; rfl)
  have hres : shaBlock st bl = D 8 := by rw [hD, hS]; rfl
  rw [hres]
  have hwd := fun w => words_any bl hbl w
  rw [← hW] at hwd
  have HWD := Lib.hid hwd
  have hidx := fun k hk w => run_index32 Tryd.underlying114 Tryd.underlying22 (by kernel_rfl) W k hWl hk w
  have HI := Lib.hid hidx
  clear hS hD hres hwd hW hidx
  have hrl := roundsL_length
  obtain ⟨RL, hRL⟩ : ∃ RL, RL = roundsL := ⟨_, rfl⟩
  rw [← hRL] at hrd hrl SS
  clear hRL
  go_enter Tryd.func20, Tryd.ntmps20
  go_wp2_with fail
  have R0 : RowIs ((((w.alloc (.cells (u32s st) 23)).alloc (.cells (u8s bl) 24)).alloc (.cells (u32s (z32 8)) 23)).alloc (.cells (u32s st) 23)) w.heap.size (u32s st) := (((RowIs.new _ _ _).alloc _).alloc _).alloc _
  have R2 : RowIs ((((w.alloc (.cells (u32s st) 23)).alloc (.cells (u8s bl) 24)).alloc (.cells (u32s (z32 8)) 23)).alloc (.cells (u32s st) 23)) (w.heap.size + 1 + 1) (u32s (z32 8)) := (RowIs.new' (by simp)).alloc _
  have R3 : RowIs ((((w.alloc (.cells (u32s st) 23)).alloc (.cells (u8s bl) 24)).alloc (.cells (u32s (z32 8)) 23)).alloc (.cells (u32s st) 23)) (w.heap.size + 1 + 1 + 1) (u32s st) := RowIs.new' (by simp)
  have HB : Below w.heap.size w ((((w.alloc (.cells (u32s st) 23)).alloc (.cells (u8s bl) 24)).alloc (.cells (u32s (z32 8)) 23)).alloc (.cells (u32s st) 23)) := (by repeat (first | with_reducible exact Below.refl _ _ | with_reducible assumption | refine Below.drew ?_ | refine below_drewN ?_ | refine Below.alloc ?_ (by first | omega | (simp; done) | (simp; omega)) _ | refine below_setRow ?_ (by omega) _ | refine Below.setCell ?_ (by first | omega | (simp; done) | (simp; omega)) _))
  have hgl := hrd.lt
  have RG := hrd.step HB
  refine (HWD.out _).mono ?_
  rintro e w1 ⟨rfl, hb1⟩
  replace R0 := R0.step hb1; replace R2 := R2.step hb1; replace R3 := R3.step hb1; replace RG := RG.step hb1
  replace HB := HB.trans (hb1.mono HB.size)
  clear hb1 hrd
  go_wp2_with fail
  go_loopw [20] (fun i wr => ∃ k : Nat, k ≤ 64 ∧ i = .int .i64 k ∧ RowIs wr w.heap.size (u32s st) ∧ RowIs wr (w.heap.size + 1 + 1) (u32s (z32 8)) ∧ RowIs wr (w.heap.size + 1 + 1 + 1) (u32s (S k)) ∧ RowIs wr 0 (u32s RL) ∧ Below w.heap.size w wr) (fun i _ => 64 - (intOf i).toNat)
  case atStart => exact ⟨0, by omega, rfl, R0, R2, by rw [← S0.out]; exact R3, RG, HB⟩
  case round =>
    obtain ⟨k, hk, rfl, R0, R2, R3, RG, HB⟩ := hrel
    have hl3 := SL.out k
    by_cases hlt : k < 64
    · have hk0 : (0 : Int) ≤ (k : Int) := by omega
      have hk1 : (k : Int) < 64 := by omega
      have hix := HI.out k hlt
      have hSS := Lib.hid (SS.out k)
      obtain ⟨sk, hsk⟩ : ∃ sk, sk = S k := ⟨_, rfl⟩
      rw [← hsk] at R3 hl3 hSS
      clear hsk
      have c0 := R3.c32 0 (by omega)
      have c1 := R3.c32 1 (by omega)
      have c2 := R3.c32 2 (by omega)
      have c3 := R3.c32 3 (by omega)
      have c4 := R3.c32 4 (by omega)
      have c5 := R3.c32 5 (by omega)
      have c6 := R3.c32 6 (by omega)
      have c7 := R3.c32 7 (by omega)
      have cg := RG.c32 k (by omega)
      have R3h := R3.has; have R3r := R3.row; have R3l := R3.lt
      go_wp2_with (first | (refine wp_region_lex [] (by kernel_rfl) (by decide +kernel) ?_) | (refine wpLex_nil ?_) | (refine wpLex_pure rfl (fun _ _ => ?_); go_simp; try go_bits) | (refine wpLex_read rfl (fun _ _ => ?_); go_simp; try go_bits) | (refine wpLex_loud rfl (fun _ _ => ?_)))
      refine wp_region_lexS [] [1, 22] (Two ⟨w.heap.size + 1 + 1 + 1, 7, none⟩ ⟨0, k, none⟩ (.int .u32 (n32 (at32 sk 7))) (.int .u32 (n32 (at32 RL k)))) (by kernel_rfl) (by decide +kernel) ⟨by go_simp, by go_simp⟩ (fun hS => ?_)
      (go_wp2_with (first | (refine wpLexS_nil ?_) | (refine wpLexS_pure rfl (fun _ _ => ?_); go_simp; refine ⟨_, fun w9 hw9 => (by have s1 := hw9.1; have s2 := hw9.2; go_simp; rfl), ?_⟩) | (refine wpLexS_pure0 rfl (fun _ _ => ?_); go_simp; try go_bits) | (refine wpLexS_read rfl (fun _ _ => ?_); go_simp; try go_bits) | (refine wpLexS_loud rfl (fun KL hKL => ?_))))
      refine (right_at _ 6 6 rfl (by omega) (by omega) _).mono ?_
      rintro e w2 ⟨rfl, rfl⟩
      (go_wp2_with (first | (refine wpLexS_nil ?_) | (refine wpLexS_pure rfl (fun _ _ => ?_); go_simp; refine ⟨_, fun w9 hw9 => (by have s1 := hw9.1; have s2 := hw9.2; go_simp; rfl), ?_⟩) | (refine wpLexS_pure0 rfl (fun _ _ => ?_); go_simp; try go_bits) | (refine wpLexS_read rfl (fun _ _ => ?_); go_simp; try go_bits) | (refine wpLexS_loud rfl (fun KL hKL => ?_))))
      refine hKL _ _ hS (fun _ => ?_)
      (go_wp2_with (first | (refine wpLexS_nil ?_) | (refine wpLexS_pure rfl (fun _ _ => ?_); go_simp; refine ⟨_, fun w9 hw9 => (by have s1 := hw9.1; have s2 := hw9.2; go_simp; rfl), ?_⟩) | (refine wpLexS_pure0 rfl (fun _ _ => ?_); go_simp; try go_bits) | (refine wpLexS_read rfl (fun _ _ => ?_); go_simp; try go_bits) | (refine wpLexS_loud rfl (fun KL hKL => ?_))))
      refine (right_at _ 11 11 rfl (by omega) (by omega) _).mono ?_
      rintro e w2 ⟨rfl, rfl⟩
      (go_wp2_with (first | (refine wpLexS_nil ?_) | (refine wpLexS_pure rfl (fun _ _ => ?_); go_simp; refine ⟨_, fun w9 hw9 => (by have s1 := hw9.1; have s2 := hw9.2; go_simp; rfl), ?_⟩) | (refine wpLexS_pure0 rfl (fun _ _ => ?_); go_simp; try go_bits) | (refine wpLexS_read rfl (fun _ _ => ?_); go_simp; try go_bits) | (refine wpLexS_loud rfl (fun KL hKL => ?_))))
      refine hKL _ _ hS (fun _ => ?_)
      (go_wp2_with (first | (refine wpLexS_nil ?_) | (refine wpLexS_pure rfl (fun _ _ => ?_); go_simp; refine ⟨_, fun w9 hw9 => (by have s1 := hw9.1; have s2 := hw9.2; go_simp; rfl), ?_⟩) | (refine wpLexS_pure0 rfl (fun _ _ => ?_); go_simp; try go_bits) | (refine wpLexS_read rfl (fun _ _ => ?_); go_simp; try go_bits) | (refine wpLexS_loud rfl (fun KL hKL => ?_))))
      refine (right_at _ 25 25 rfl (by omega) (by omega) _).mono ?_
      rintro e w2 ⟨rfl, rfl⟩
      (go_wp2_with (first | (refine wpLexS_nil ?_) | (refine wpLexS_pure rfl (fun _ _ => ?_); go_simp; refine ⟨_, fun w9 hw9 => (by have s1 := hw9.1; have s2 := hw9.2; go_simp; rfl), ?_⟩) | (refine wpLexS_pure0 rfl (fun _ _ => ?_); go_simp; try go_bits) | (refine wpLexS_read rfl (fun _ _ => ?_); go_simp; try go_bits) | (refine wpLexS_loud rfl (fun KL hKL => ?_))))
      refine hKL _ _ hS (fun _ => ?_)
      (go_wp2_with (first | (refine wpLexS_nil ?_) | (refine wpLexS_pure rfl (fun _ _ => ?_); go_simp; refine ⟨_, fun w9 hw9 => (by have s1 := hw9.1; have s2 := hw9.2; go_simp; rfl), ?_⟩) | (refine wpLexS_pure0 rfl (fun _ _ => ?_); go_simp; try go_bits) | (refine wpLexS_read rfl (fun _ _ => ?_); go_simp; try go_bits) | (refine wpLexS_loud rfl (fun KL hKL => ?_))))
      refine (right_at _ 2 2 rfl (by omega) (by omega) _).mono ?_
      rintro e w2 ⟨rfl, rfl⟩
      go_wp2_with (first | (refine wp_region_lex [] (by kernel_rfl) (by decide +kernel) ?_) | (refine wpLex_nil ?_) | (refine wpLex_pure rfl (fun _ _ => ?_); go_simp; try go_bits) | (refine wpLex_read rfl (fun _ _ => ?_); go_simp; try go_bits) | (refine wpLex_loud rfl (fun _ _ => ?_)))
      refine (right_at _ 13 13 rfl (by omega) (by omega) _).mono ?_
      rintro e w2 ⟨rfl, rfl⟩
      go_wp2_with (first | (refine wp_region_lex [] (by kernel_rfl) (by decide +kernel) ?_) | (refine wpLex_nil ?_) | (refine wpLex_pure rfl (fun _ _ => ?_); go_simp; try go_bits) | (refine wpLex_read rfl (fun _ _ => ?_); go_simp; try go_bits) | (refine wpLex_loud rfl (fun _ _ => ?_)))
      refine (right_at _ 22 22 rfl (by omega) (by omega) _).mono ?_
      rintro e w2 ⟨rfl, rfl⟩
      go_wp2_with (first | (refine wp_region_lex [] (by kernel_rfl) (by decide +kernel) ?_) | (refine wpLex_nil ?_) | (refine wpLex_pure rfl (fun _ _ => ?_); go_simp; try go_bits) | (refine wpLex_read rfl (fun _ _ => ?_); go_simp; try go_bits) | (refine wpLex_loud rfl (fun _ _ => ?_)))
      exact ⟨⟨k + 1, by omega, by go_num, (R0.set_ne (by omega) _).drew.drew, (R2.set_ne (by omega) _).drew.drew, by rw [← hSS.out, ← step_fold]; exact (R3.set _).drew.drew, (RG.set_ne (by omega) _).drew.drew, (below_setRow HB (by omega) _).drew.drew⟩, by simp [intOf]; omega⟩
    · have e64 : k = 64 := by omega
      subst e64
      rw [show ((64 : Nat) : Int) = 64 from rfl]
      rw [D0.out] at R3
      have HB0 := HB
      go_wp2_with fail
      go_loopw [97] (fun i wr => ∃ k : Nat, k ≤ 8 ∧ i = .int .i64 k ∧ RowIs wr w.heap.size (u32s st) ∧ RowIs wr (w.heap.size + 1 + 1) (u32s (z32 8)) ∧ RowIs wr (w.heap.size + 1 + 1 + 1) (u32s (D k)) ∧ Below w.heap.size w wr) (fun i _ => 8 - (intOf i).toNat)
      case atStart => exact ⟨0, by omega, rfl, R0, R2, R3, HB⟩
      case round =>
        clear R0 R2 R3 RG HB hl3
        obtain ⟨k, hk, rfl, R0, R2, R3, HB⟩ := hrel
        have hdl := DL.out k
        by_cases hlt : k < 8
        · have hk0 : (0 : Int) ≤ (k : Int) := by omega
          have hk1 : (k : Int) < 8 := by omega
          have hDS := Lib.hid (DS.out k)
          obtain ⟨dk, hdk⟩ : ∃ dk, dk = D k := ⟨_, rfl⟩
          rw [← hdk] at R3 hdl hDS
          clear hdk
          have c0 := R3.c32 k (by omega)
          have c1 := R0.c32 k (by omega)
          have hfr := R3.fz k
          have hk3 : k < 8 := hlt
          go_wp2_with (first | (refine wp_region_lex [] (by kernel_rfl) (by decide +kernel) ?_) | (refine wpLex_nil ?_) | (refine wpLex_pure rfl (fun _ _ => ?_); go_simp; try go_bits) | (refine wpLex_read rfl (fun _ _ => ?_); go_simp; try go_bits) | (refine wpLex_loud rfl (fun _ _ => ?_)))
          refine ⟨⟨k + 1, by omega, by go_num, (R0.put_ne (by simp <;> omega) _).drew, (R2.put_ne (by simp <;> omega) _).drew, ?_, (HB.setCell (by simp <;> omega) _).drew⟩, by simp [intOf]; omega⟩
          rw [← hDS.out, ← u32s_set]
          exact (R3.put k _).drew
        · have e8 : k = 8 := by omega
          subst e8
          rw [show ((8 : Nat) : Int) = 8 from rfl]
          have R2h := R2.has; have R2r := R2.row; have R2l := R2.lt; have R3h := R3.has; have R3r := R3.row; have R3l := R3.lt
          go_wp2_with fail
          refine bodyPost_retRow 4 _ (w.heap.size + 1 + 1) 8 rfl rfl (by omega) (by kernel_rfl) (by kernel_rfl) ?_ rfl ?_
          · go_simp
          · go_simp
            exact ⟨rfl, below_setRow HB (by omega) _⟩
end Go.Proofs.YtopmdbmnlflpgaaDoor
