/- Layer 26: the examples' Events; whether the law is awake. -/
import Derived.Test.YtlfplikkifjnfaaMdlA
namespace Go.Proofs.Ytlfplikkifjnfaa
open Go.RowKit
def twoE (b : UInt8) : List Ev := [⟨1, 0, 0, [97]⟩, ⟨1, 0, 0, [98]⟩, ⟨6, 1, 0, [b]⟩]
def TwoRes (b : UInt8) (w : World) (e : Ending) (w' : World) : Prop := ∃ g, e = .returned (.slice (some ⟨g, 0, none⟩) 3 3) ∧ RdEv w' w'.heap.size (some ⟨g, 0, none⟩) (twoE b) ∧ w.heap.size ≤ g ∧ Below w.heap.size w w'
set_option maxRecDepth 100000 in
theorem two_any (b : UInt8) (i : Int) (hi : i = n8 b) (w : World) : Calls Try.prog 12 #[.int .u8 i] w (TwoRes b w) := by
  have fin : ∀ W g0 g1 g2 g3, W = (((w.alloc (.cells #[.int .u8 97] 5)).alloc (.cells #[.int .u8 98] 5)).alloc (.cells #[.int .u8 i] 5)).alloc (.cells #[.int .i64 1, .int .i64 0, .int .i64 0, .slice (some ⟨g0, 0, none⟩) 1 1, .int .i64 1, .int .i64 0, .int .i64 0, .slice (some ⟨g1, 0, none⟩) 1 1, .int .i64 6, .int .i64 1, .int .i64 0, .slice (some ⟨g2, 0, none⟩) 1 1] 36) → g0 = w.heap.size → g1 = w.heap.size + 1 → g2 = w.heap.size + 1 + 1 → g3 = w.heap.size + 1 + 1 + 1 → TwoRes b w (.returned (.slice (some ⟨g3, 0, none⟩) 3 3)) W := by
    rintro W g0 g1 g2 g3 rfl rfl rfl rfl rfl
    have R0 : RowIs ((((w.alloc (.cells #[.int .u8 97] 5)).alloc (.cells #[.int .u8 98] 5)).alloc (.cells #[.int .u8 i] 5)).alloc (.cells #[.int .i64 1, .int .i64 0, .int .i64 0, .slice (some ⟨w.heap.size, 0, none⟩) 1 1, .int .i64 1, .int .i64 0, .int .i64 0, .slice (some ⟨w.heap.size + 1, 0, none⟩) 1 1, .int .i64 6, .int .i64 1, .int .i64 0, .slice (some ⟨w.heap.size + 1 + 1, 0, none⟩) 1 1] 36)) w.heap.size (u8s [97]) := by
      have := (((RowIs.new w #[.int .u8 97] 5).alloc (.cells #[.int .u8 98] 5)).alloc (.cells #[.int .u8 i] 5)).alloc (.cells #[.int .i64 1, .int .i64 0, .int .i64 0, .slice (some ⟨w.heap.size, 0, none⟩) 1 1, .int .i64 1, .int .i64 0, .int .i64 0, .slice (some ⟨w.heap.size + 1, 0, none⟩) 1 1, .int .i64 6, .int .i64 1, .int .i64 0, .slice (some ⟨w.heap.size + 1 + 1, 0, none⟩) 1 1] 36)
      rw [u8s_def]; simpa [n8_def] using this
    have R1 : RowIs ((((w.alloc (.cells #[.int .u8 97] 5)).alloc (.cells #[.int .u8 98] 5)).alloc (.cells #[.int .u8 i] 5)).alloc (.cells #[.int .i64 1, .int .i64 0, .int .i64 0, .slice (some ⟨w.heap.size, 0, none⟩) 1 1, .int .i64 1, .int .i64 0, .int .i64 0, .slice (some ⟨w.heap.size + 1, 0, none⟩) 1 1, .int .i64 6, .int .i64 1, .int .i64 0, .slice (some ⟨w.heap.size + 1 + 1, 0, none⟩) 1 1] 36)) (w.heap.size + 1) (u8s [98]) := by
      have := ((RowIs.new' (w := w.alloc (.cells #[.int .u8 97] 5)) (cs := #[.int .u8 98]) (t := 5) (g := w.heap.size + 1) (by simp)).alloc (.cells #[.int .u8 i] 5)).alloc (.cells #[.int .i64 1, .int .i64 0, .int .i64 0, .slice (some ⟨w.heap.size, 0, none⟩) 1 1, .int .i64 1, .int .i64 0, .int .i64 0, .slice (some ⟨w.heap.size + 1, 0, none⟩) 1 1, .int .i64 6, .int .i64 1, .int .i64 0, .slice (some ⟨w.heap.size + 1 + 1, 0, none⟩) 1 1] 36)
      rw [u8s_def]; simpa [n8_def] using this
    have R2 : RowIs ((((w.alloc (.cells #[.int .u8 97] 5)).alloc (.cells #[.int .u8 98] 5)).alloc (.cells #[.int .u8 i] 5)).alloc (.cells #[.int .i64 1, .int .i64 0, .int .i64 0, .slice (some ⟨w.heap.size, 0, none⟩) 1 1, .int .i64 1, .int .i64 0, .int .i64 0, .slice (some ⟨w.heap.size + 1, 0, none⟩) 1 1, .int .i64 6, .int .i64 1, .int .i64 0, .slice (some ⟨w.heap.size + 1 + 1, 0, none⟩) 1 1] 36)) (w.heap.size + 1 + 1) (u8s [b]) := by
      have := (RowIs.new' (w := (w.alloc (.cells #[.int .u8 97] 5)).alloc (.cells #[.int .u8 98] 5)) (cs := #[.int .u8 i]) (t := 5) (g := w.heap.size + 1 + 1) (by simp)).alloc (.cells #[.int .i64 1, .int .i64 0, .int .i64 0, .slice (some ⟨w.heap.size, 0, none⟩) 1 1, .int .i64 1, .int .i64 0, .int .i64 0, .slice (some ⟨w.heap.size + 1, 0, none⟩) 1 1, .int .i64 6, .int .i64 1, .int .i64 0, .slice (some ⟨w.heap.size + 1 + 1, 0, none⟩) 1 1] 36)
      rw [u8s_def]; rw [hi] at this ⊢; simpa using this
    have RN : RowIs ((((w.alloc (.cells #[.int .u8 97] 5)).alloc (.cells #[.int .u8 98] 5)).alloc (.cells #[.int .u8 i] 5)).alloc (.cells #[.int .i64 1, .int .i64 0, .int .i64 0, .slice (some ⟨w.heap.size, 0, none⟩) 1 1, .int .i64 1, .int .i64 0, .int .i64 0, .slice (some ⟨w.heap.size + 1, 0, none⟩) 1 1, .int .i64 6, .int .i64 1, .int .i64 0, .slice (some ⟨w.heap.size + 1 + 1, 0, none⟩) 1 1] 36)) (w.heap.size + 1 + 1 + 1) [.int .i64 1, .int .i64 0, .int .i64 0, .slice (some ⟨w.heap.size, 0, none⟩) 1 1, .int .i64 1, .int .i64 0, .int .i64 0, .slice (some ⟨w.heap.size + 1, 0, none⟩) 1 1, .int .i64 6, .int .i64 1, .int .i64 0, .slice (some ⟨w.heap.size + 1 + 1, 0, none⟩) 1 1].toArray := RowIs.new' (by simp)
    have hB : Below w.heap.size w ((((w.alloc (.cells #[.int .u8 97] 5)).alloc (.cells #[.int .u8 98] 5)).alloc (.cells #[.int .u8 i] 5)).alloc (.cells #[.int .i64 1, .int .i64 0, .int .i64 0, .slice (some ⟨w.heap.size, 0, none⟩) 1 1, .int .i64 1, .int .i64 0, .int .i64 0, .slice (some ⟨w.heap.size + 1, 0, none⟩) 1 1, .int .i64 6, .int .i64 1, .int .i64 0, .slice (some ⟨w.heap.size + 1 + 1, 0, none⟩) 1 1] 36)) := (by repeat (first | with_reducible exact Below.refl _ _ | with_reducible assumption | refine Below.drew ?_ | refine below_drewN ?_ | refine Below.alloc ?_ (by first | omega | (simp; done) | (simp; omega)) _ | refine below_setRow ?_ (by omega) _ | refine Below.setCell ?_ (by first | omega | (simp; done) | (simp; omega)) _))
    refine ⟨_, rfl, fun _ => ⟨_, _, rfl, RN.lt, fun j hj => ?_⟩, by omega, hB⟩
    have h3 : j = 0 ∨ j = 1 ∨ j = 2 := by
      have : (twoE b).length = 3 := rfl
      omega
    rcases h3 with rfl | rfl | rfl
    · refine ⟨.slice (some ⟨w.heap.size, 0, none⟩) 1 1, ?_, ?_⟩
      · have := RN.range 0 4; rw [nthE_def]; exact this
      · rw [nthE_def]; exact Bs.row R0 1 1 rfl (Nat.le_refl _) (by omega)
    · refine ⟨.slice (some ⟨w.heap.size + 1, 0, none⟩) 1 1, ?_, ?_⟩
      · have := RN.range 4 4; rw [nthE_def]; exact this
      · rw [nthE_def]; exact Bs.row R1 1 1 rfl (Nat.le_refl _) (by omega)
    · refine ⟨.slice (some ⟨w.heap.size + 1 + 1, 0, none⟩) 1 1, ?_, ?_⟩
      · have := RN.range 8 4; rw [nthE_def]; exact this
      · rw [nthE_def]; exact Bs.row R2 1 1 rfl (Nat.le_refl _) (by omega)
  have FIN := Lib.hid fin
  clear fin hi
  go_enter Try.func12, Try.ntmps12
  go_wp2_with fail
  go_ret
  exact FIN.out _ _ _ _ _ rfl rfl rfl rfl rfl
theorem ChkVal.uniq {es : List Ev} {r s : Int} (h : ChkVal es r) (k : ChkVal es s) : r = s := by
  rcases h with ⟨i, hi, rfl, h1, h2⟩ | ⟨rfl, h1⟩ <;> rcases k with ⟨j, hj, rfl, k1, k2⟩ | ⟨rfl, k1⟩
  · rcases Nat.lt_trichotomy i j with h | h | h
    · have := k2 i h; rw [h1] at this; cases this
    · rw [h]
    · have := h2 j h; rw [k1] at this; cases this
  · have := k1 i hi; rw [h1] at this; cases this
  · have := h1 j hj; rw [k1] at this; cases this
  · rfl
theorem chk97 : ChkVal (twoE 97) (-1) := .inr ⟨rfl, by decide +kernel⟩
theorem chk98 : ChkVal (twoE 98) 2 := .inl ⟨2, by decide, rfl, by decide +kernel, by decide +kernel⟩
theorem st97 : (stK (twoE 97) 3).1 = [[98]] := by decide +kernel
theorem lost98 : (lostK (twoE 98) 3).1 ++ (lostK (twoE 98) 3).2 = [[97]] := by decide +kernel
theorem Qs.no8 {w : World} {q base : Nat} {s : BL × BL} (h : Qs w q base s) : No8 w q := by
  obtain ⟨va, vb, ta, tb, R, ha, hb, _⟩ := h
  exact qno8 R ha hb
theorem RdEv.upq {w w' : World} {B q base : Nat} {A : Option Addr} {es : List Ev} (h : RdEv w B A es) (hB : B ≤ base) (u : UpdQ q base w w') (hA : ∀ g o, A = some ⟨g, o, none⟩ → g ≠ q) (hn : No8 w q) : RdEv w' B A es := fun h0 => by
  obtain ⟨g, o, e, hg, hc⟩ := h h0
  refine ⟨g, o, e, hg, fun i hi => ?_⟩
  obtain ⟨v, h1, A', c', h2, h3, h4, h5⟩ := hc i hi
  refine ⟨v, fun j z hz => (World.cell?_of_block (w := w) (a := ⟨g, o + i * 4 + j, none⟩) (u.block g (by omega) (hA g o e))).trans (h1 j z hz), A', c', h2, h3, h4, fun k0 => ?_⟩
  obtain ⟨g2, o2, e2, hg2, hc2⟩ := h5 k0
  have hne : g2 ≠ q := by
    rintro rfl
    exact hn _ _ (hc2 0 k0)
  exact ⟨g2, o2, e2, hg2, fun j hj => (World.cell?_of_block (w := w) (a := ⟨g2, o2 + j, none⟩) (u.block g2 (by omega) hne)).trans (hc2 j hj)⟩
def AwakeRes (w : World) (e : Ending) (w' : World) : Prop := e = .returned (.bool true) ∧ Below w.heap.size w w'
theorem lit1b (b : UInt8) (i : Int) (hi : i = n8 b) : #[Value.int .u8 i] = u8s [b] := by rw [u8s_def, hi]; simp
set_option maxRecDepth 100000 in
set_option maxHeartbeats 3200000 in
theorem awake_any (w : World) : Calls Try.prog 6 #[] w (AwakeRes w) := by
  have T97 := Lib.hid (fun w => two_any 97 97 (by rw [n8_def]; rfl) w)
  have T98 := Lib.hid (fun w => two_any 98 98 (by rw [n8_def]; rfl) w)
  obtain ⟨E97, hE97⟩ : ∃ E, E = twoE 97 := ⟨_, rfl⟩
  obtain ⟨E98, hE98⟩ : ∃ E, E = twoE 98 := ⟨_, rfl⟩
  have l97 : E97.length = 3 := by rw [hE97]; rfl
  have l98 : E98.length = 3 := by rw [hE98]; rfl
  have k97 : ChkVal E97 (-1) := by rw [hE97]; exact chk97
  have k98 : ChkVal E98 2 := by rw [hE98]; exact chk98
  have s97 : (stK E97 3).1 = [[98]] := by rw [hE97]; exact st97
  have o98 : (lostK E98 3).1 ++ (lostK E98 3).2 = [[97]] := by rw [hE98]; exact lost98
  have L97 := Lib.hid l97; have L98 := Lib.hid l98; have K97 := Lib.hid k97; have K98 := Lib.hid k98; have S97 := Lib.hid s97; have O98 := Lib.hid o98
  have H97 := Lib.hid hE97; have H98 := Lib.hid hE98
  have LB98 := Lib.hid (lit1b 98 98 (by rw [n8_def]; rfl)); have LB97 := Lib.hid (lit1b 97 97 (by rw [n8_def]; rfl))
  have HZ := qZ
  clear l97 l98 k97 k98 s97 o98 hE97 hE98
  go_enter Try.func6, Try.ntmps6
  go_wp2_with fail
  refine (T97.out w).mono ?_
  rintro e w1 ⟨g1, rfl, r1, -, HB⟩
  rw [← H97.out] at r1
  have CC := check_any (some ⟨g1, 0, none⟩) 3 E97 w1 r1 (by rw [L97.out]; omega)
  rw [L97.out] at CC
  have CC := Lib.hid CC
  clear r1
  go_wp2_with fail
  refine CC.out.mono ?_
  rintro e w2 ⟨⟨r, rfl, hr⟩, hb⟩
  obtain rfl := hr.uniq K97.out
  replace HB := HB.trans (hb.mono HB.size)
  clear hr hb CC
  go_wp2_with fail
  refine (T98.out w2).mono ?_
  rintro e w3 ⟨g3, rfl, r3, -, hb⟩
  replace HB := HB.trans (hb.mono HB.size)
  rw [← H98.out] at r3
  have CC := check_any (some ⟨g3, 0, none⟩) 3 E98 w3 r3 (by rw [L98.out]; omega)
  rw [L98.out] at CC
  have CC := Lib.hid CC
  clear r3 hb
  go_wp2_with fail
  refine CC.out.mono ?_
  rintro e w4 ⟨⟨r, rfl, hr⟩, hb⟩
  obtain rfl := hr.uniq K98.out
  replace HB := HB.trans (hb.mono HB.size)
  clear hr hb CC
  have hq5 : Below w4.heap.size w4 (w4.alloc (.cells (qC (.slice none 0 0) 0 (.slice none 0 0) 0) 31)) := (by repeat (first | with_reducible exact Below.refl _ _ | with_reducible assumption | refine Below.drew ?_ | refine below_drewN ?_ | refine Below.alloc ?_ (by first | omega | (simp; done) | (simp; omega)) _ | refine below_setRow ?_ (by omega) _ | refine Below.setCell ?_ (by first | omega | (simp; done) | (simp; omega)) _))
  have hwq := HB.size
  have RQ : RowIs (w4.alloc (.cells (qC (.slice none 0 0) 0 (.slice none 0 0) 0) 31)) w4.heap.size (qC (.slice none 0 0) 0 (.slice none 0 0) 0) := RowIs.new _ _ _
  replace HB := HB.trans (hq5.mono HB.size)
  have hqz := RQ.lt
  clear hq5
  go_wp2_with fail
  refine (T97.out _).mono ?_
  rintro e w5 ⟨g5, rfl, r5, hg5, hb⟩
  rw [← H97.out] at r5
  replace RQ := RQ.step hb
  replace HB := HB.trans (hb.mono HB.size)
  have hq0 := Qs.new RQ (Nat.le_refl w5.heap.size)
  have hgq : g5 ≠ w4.heap.size := by omega
  clear RQ hb hg5
  go_wp2_with fail
  go_loopw [5] (fun i wr => ∃ k : Nat, i = .int .i64 k ∧ k ≤ 3 ∧ Qs wr w4.heap.size w5.heap.size (stK E97 k) ∧ RdEv wr w5.heap.size (some ⟨g5, 0, none⟩) E97 ∧ UpdQ w4.heap.size w5.heap.size w5 wr) (fun i _ => 3 - (intOf i).toNat)
  case atStart => exact ⟨0, rfl, by omega, hq0, r5, UpdQ.refl _ _ _⟩
  case round =>
    clear hq0 r5
    obtain ⟨k, rfl, hk, hs, hr, hu⟩ := hrel
    by_cases hlt : k < 3
    · have hlt' : k < E97.length := by rw [L97.out]; exact hlt
      obtain ⟨g, o, eA, hg, hel⟩ := hr (by omega)
      obtain ⟨v, hat, hbv⟩ := hel k hlt'
      injection eA with eA
      injection eA with e1 e2 e3
      subst e1; subst e2
      have hL := ev_load hat
      obtain ⟨hq1, hq2⟩ := hs.lt
      have hbs := hbv.bs hq1
      obtain ⟨hl1, hl2⟩ := stK_len E97 k
      have cc := see_any w4.heap.size w5.heap.size (nthE E97 k).d (nthE E97 k).who (nthE E97 k).code v (nthE E97 k).b (stK E97 k) wr hs hbs (by omega) (by omega)
      have hno := hs.no8
      have hnx : (seeP (nthE E97 k).d (nthE E97 k).who (nthE E97 k).code (nthE E97 k).b (stK E97 k)).2 = stK E97 (k + 1) := rfl
      unfold SeeRes at cc
      rw [hnx] at cc
      have CC := Lib.hid cc
      have HR := Lib.hid hr; have HNO := Lib.hid hno
      rw [show (0 : Nat) + k * 4 = k * 4 by omega] at hL
      have hk0 : (0 : Int) ≤ (k : Int) := by omega
      have hk1 : (k : Int) < 3 := by omega
      obtain ⟨vb, hvb⟩ : ∃ b, b = (seeP (nthE E97 k).d (nthE E97 k).who (nthE E97 k).code (nthE E97 k).b (stK E97 k)).1 := ⟨_, rfl⟩
      rw [← hvb] at CC
      clear hnx cc hs hbs hbv hat hel hr hno hvb
      go_wp2_with fail
      refine CC.out.mono ?_
      rintro e w6 ⟨rfl, hs6, hu6⟩
      go_wp2_with fail
      exact ⟨⟨k + 1, by go_num, by omega, hs6, HR.out.upq (Nat.le_refl _) hu6 (fun g o e => by injection e with e; injection e with e; rw [← e]; exact hgq) HNO.out, hu.trans hu6⟩, by simp [intOf]; omega⟩
    · have ek : k = 3 := by omega
      subst ek
      obtain ⟨hl1, hl2⟩ := stK_len E97 3
      have CC := left_any w4.heap.size w5.heap.size 0 _ _ wr hs (.inl ⟨rfl, rfl⟩) (by omega)
      rw [S97.out] at CC
      have CC := Lib.hid CC
      have hz5 := HB.size
      replace HB : Below w.heap.size w wr := HB.trans ⟨hu.os, hu.tape, hu.output, hu.size, fun k hk => hu.block k (by omega) (by omega)⟩
      clear hs hr hu
      go_wp2_with fail
      refine CC.out.mono ?_
      rintro e w7 ⟨v7, rfl, own7, hb⟩
      replace HB := HB.trans (hb.mono HB.size)
      have hc7 := own7.bsl (by simp)
      clear own7 hb CC
      go_wp2_with fail
      refine (T98.out _).mono ?_
      rintro e w8 ⟨g8, rfl, r8, -, hb⟩
      rw [← H98.out] at r8
      replace HB := HB.trans (hb.mono HB.size)
      replace hc7 := hc7.step hb
      have CC := lost_any (some ⟨g8, 0, none⟩) 3 E98 w8 r8 (by rw [L98.out]; omega)
      rw [L98.out, O98.out] at CC
      have CC := Lib.hid CC
      clear r8 hb
      go_wp2_with fail
      refine CC.out.mono ?_
      rintro e w9 ⟨v9, rfl, own9, hb⟩
      replace HB := HB.trans (hb.mono HB.size)
      replace hc7 := hc7.step hb
      have hc9 := own9.bsl (by simp)
      clear own9 hb CC
      obtain ⟨A7, c7, e7, -, -, -⟩ := id hc7
      obtain ⟨A9, c9, e9, -, -, -⟩ := id hc9
      subst e7; subst e9
      have p1 : Below w9.heap.size w9 ((w9.alloc (.cells #[.int .u8 98] 5)).alloc (.cells #[.slice (some ⟨w9.heap.size, 0, none⟩) 1 1] 34)) := (by repeat (first | with_reducible exact Below.refl _ _ | with_reducible assumption | refine Below.drew ?_ | refine below_drewN ?_ | refine Below.alloc ?_ (by first | omega | (simp; done) | (simp; omega)) _ | refine below_setRow ?_ (by omega) _ | refine Below.setCell ?_ (by first | omega | (simp; done) | (simp; omega)) _))
      have p2 : Bs (w9.alloc (.cells #[.int .u8 98] 5)) (.slice (some ⟨w9.heap.size, 0, none⟩) 1 1) [98] := Bs.row (by rw [← LB98.out]; exact RowIs.new _ _ _) 1 1 rfl (Nat.le_refl _) (by omega)
      have p3 := BsL.lit1 (w := w9.alloc (.cells #[.int .u8 98] 5)) (gg := w9.heap.size + 1) 34 (by simp) p2
      have CC := lists_bs _ _ _ _ _ (hc7.step p1) p3
      rw [decide_eq_true rfl] at CC
      have CC := Lib.hid CC
      replace HB := HB.trans (p1.mono HB.size)
      replace hc9 := hc9.step p1; clear p1 p2 p3
      go_wp2_with fail
      refine CC.out.mono ?_
      rintro e w10 ⟨rfl, hb⟩
      replace HB := HB.trans (hb.mono HB.size)
      replace hc9 := hc9.step hb
      clear CC hb hc7
      have r1 : Below w10.heap.size w10 ((w10.alloc (.cells #[.int .u8 97] 5)).alloc (.cells #[.slice (some ⟨w10.heap.size, 0, none⟩) 1 1] 34)) := (by repeat (first | with_reducible exact Below.refl _ _ | with_reducible assumption | refine Below.drew ?_ | refine below_drewN ?_ | refine Below.alloc ?_ (by first | omega | (simp; done) | (simp; omega)) _ | refine below_setRow ?_ (by omega) _ | refine Below.setCell ?_ (by first | omega | (simp; done) | (simp; omega)) _))
      have r2 : Bs (w10.alloc (.cells #[.int .u8 97] 5)) (.slice (some ⟨w10.heap.size, 0, none⟩) 1 1) [97] := Bs.row (by rw [← LB97.out]; exact RowIs.new _ _ _) 1 1 rfl (Nat.le_refl _) (by omega)
      have r3 := BsL.lit1 (w := w10.alloc (.cells #[.int .u8 97] 5)) (gg := w10.heap.size + 1) 34 (by simp) r2
      have CC := lists_bs _ _ _ _ _ (hc9.step r1) r3
      rw [decide_eq_true rfl] at CC
      have CC := Lib.hid CC
      replace HB := HB.trans (r1.mono HB.size)
      clear r1 r2 r3
      go_wp2_with fail
      refine CC.out.mono ?_
      rintro e w11 ⟨rfl, hb⟩
      go_wp2_with fail
      go_ret
      exact ⟨rfl, HB.trans (hb.mono HB.size)⟩
end Go.Proofs.Ytlfplikkifjnfaa
