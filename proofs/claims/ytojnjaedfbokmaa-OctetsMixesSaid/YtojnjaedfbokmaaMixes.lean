/- OctetsMixes: the walk. -/
import Derived.Test.YtojnjaedfbokmaaAwake1
import Derived.Test.YtojnjaedfbokmaaOpen
import Derived.Test.YtojnjaedfbokmaaKeyBs
import Derived.Test.YtojnjaedfbokmaaJoin
import Derived.Test.YtojnjaedfbokmaaAppBs
import Derived.Test.YtojnjaedfbokmaaEq
namespace Go.Proofs.Ytojnjaedfbokmaa
open Go.RowKit
set_option maxRecDepth 100000 in
set_option maxHeartbeats 2000000 in
theorem walk_OctetsMixes (A : Option Addr) (c : Nat) (a : List UInt8) (B : Option Addr) (d : Nat) (b : List UInt8) (w : World) (hc : a.length ≤ c) (hr : Rd8 w w.heap.size A a) (hd : b.length ≤ d) (hs : Rd8 w w.heap.size B b) :
    Calls Try.prog 9 #[.slice A a.length c, .slice B b.length d] w (TrueRes w) := by
  obtain ⟨n, hn⟩ : ∃ n, n = a.length := ⟨_, rfl⟩
  obtain ⟨m, hm⟩ : ∃ m, m = b.length := ⟨_, rfl⟩
  rw [← hn] at hc ⊢
  rw [← hm] at hd ⊢
  have HR := Lib.hid hr; clear hr
  have HS := Lib.hid hs; clear hs
  have HN := Lib.hid hn; clear hn
  have HM := Lib.hid hm; clear hm
  by_cases h1 : 200 < (n : Int)
  · go_enter Try.func9, Try.ntmps9
    go_wp2_with (go_at_call 10; refine (awake_any _).mono ?_; rintro e w1 ⟨rfl, hb1⟩)
    go_ret
    exact ⟨rfl, hb1⟩
  by_cases h2 : 200 < (m : Int)
  · go_enter Try.func9, Try.ntmps9
    go_wp2_with (go_at_call 10; refine (awake_any _).mono ?_; rintro e w1 ⟨rfl, hb1⟩)
    go_ret
    exact ⟨rfl, hb1⟩
  have ha : Bs w (.slice A n c) a := Bs.of' HN.out.symm hc (by omega) HR.out
  have hb : Bs w (.slice B m d) b := Bs.of' HM.out.symm hd (by omega) HS.out
  have h3 : ¬ (200 < n) := by omega
  have h4 : ¬ (200 < m) := by omega
  obtain ⟨ke, hke⟩ : ∃ ke, ke = keyErr a := ⟨_, rfl⟩
  obtain ⟨kk, hkk⟩ : ∃ kk, kk = keyOf a := ⟨_, rfl⟩
  have hkl : kk.length = 32 := by rw [hkk, keyOf_length]
  obtain ⟨x, hx⟩ : ∃ x, x = xorB a b := ⟨_, rfl⟩
  obtain ⟨hx', hhx⟩ : ∃ hx', hx' = hexB a := ⟨_, rfl⟩
  obtain ⟨sm, hsm⟩ : ∃ sm, sm = decide (a = b) := ⟨_, rfl⟩
  have k1 := fun (w : World) (v : Value) (h : Bs w v a) => toKey_bs h
  have k2 := fun (w : World) (v : Value) (h : Bs w v a) => refToKey_bs h
  unfold KeyRes at k1 k2
  rw [← hke, ← hkk] at k1 k2
  have K1 := Lib.hid k1
  have K2 := Lib.hid k2
  have X1 := Lib.hid fun (w : World) (v u : Value) (h : Bs w v a) (g : Bs w u b) => xor_bs h g
  have X2 := Lib.hid fun (w : World) (v u : Value) (h : Bs w v a) (g : Bs w u b) => refXor_bs h g
  have S1 := Lib.hid fun (w : World) (v u : Value) (h : Bs w v a) (g : Bs w u b) => same_bs h g
  have S2 := Lib.hid fun (w : World) (v u : Value) (h : Bs w v a) (g : Bs w u b) => refSame_bs h g
  have D1 := Lib.hid fun (w : World) (v : Value) (h : Bs w v a) => hex_bs h (by rw [← HN.out]; omega)
  have D2 := Lib.hid fun (w : World) (v : Value) (h : Bs w v a) => refHex_bs h (by rw [← HN.out]; omega)
  rw [← hx] at X1 X2
  rw [← hsm] at S1 S2
  rw [← hhx] at D1 D2
  have hjl : [a, b, a].flatten = a ++ b ++ a := by simp
  have hjn : ([a, b, a].flatten).length ≤ 35184372088832 := by rw [hjl]; simp only [List.length_append, ← HN.out, ← HM.out]; omega
  have HJ := Lib.hid hjl
  have HJN := Lib.hid hjn
  clear k1 k2 hke hkk hx hhx hsm hjl hjn
  go_enter Try.func9, Try.ntmps9
  go_wp2_with fail
  refine (awake_any _).mono ?_
  rintro e w1 ⟨rfl, hb1⟩
  replace ha := ha.step hb1; replace hb := hb.step hb1
  have HB := hb1
  go_wp2_with fail
  refine (X1.out _ _ _ ha hb).mono ?_
  rintro e w2 ⟨v2, rfl, hv2, hb2⟩
  replace hb2 := Below.pred (w1 := w1) (by repeat (first | with_reducible exact Below.refl _ _ | with_reducible assumption | refine Below.drew ?_ | refine below_drewN ?_ | refine Below.alloc ?_ (by simp <;> omega) _ | refine below_setRow ?_ (by omega) _ | refine Below.setCell ?_ (by simp <;> omega) _)) hb2; replace ha := ha.step hb2; replace hb := hb.step hb2; replace HB := HB.trans (hb2.mono HB.size)
  go_wp2_with fail
  refine (S1.out _ _ _ ha hb).mono ?_
  rintro e w3 ⟨rfl, hb3⟩
  replace hb3 := Below.pred (w1 := w2) (by repeat (first | with_reducible exact Below.refl _ _ | with_reducible assumption | refine Below.drew ?_ | refine below_drewN ?_ | refine Below.alloc ?_ (by simp <;> omega) _ | refine below_setRow ?_ (by omega) _ | refine Below.setCell ?_ (by simp <;> omega) _)) hb3; replace ha := ha.step hb3; replace hb := hb.step hb3; replace hv2 := hv2.step hb3; replace HB := HB.trans (hb3.mono HB.size)
  go_wp2_with fail
  refine (same_bs ha ha).mono ?_
  rintro e w4 ⟨rfl, hb4⟩
  replace hb4 := Below.pred (w1 := w3) (by repeat (first | with_reducible exact Below.refl _ _ | with_reducible assumption | refine Below.drew ?_ | refine below_drewN ?_ | refine Below.alloc ?_ (by simp <;> omega) _ | refine below_setRow ?_ (by omega) _ | refine Below.setCell ?_ (by simp <;> omega) _)) hb4; replace ha := ha.step hb4; replace hb := hb.step hb4; replace hv2 := hv2.step hb4; replace HB := HB.trans (hb4.mono HB.size)
  go_wp2_with fail
  refine (D1.out _ _ ha).mono ?_
  rintro e w5 ⟨rfl, hb5⟩
  replace hb5 := Below.pred (w1 := w4) (by repeat (first | with_reducible exact Below.refl _ _ | with_reducible assumption | refine Below.drew ?_ | refine below_drewN ?_ | refine Below.alloc ?_ (by simp <;> omega) _ | refine below_setRow ?_ (by omega) _ | refine Below.setCell ?_ (by simp <;> omega) _)) hb5; replace ha := ha.step hb5; replace hb := hb.step hb5; replace hv2 := hv2.step hb5; replace HB := HB.trans (hb5.mono HB.size)
  go_wp2_with fail
  refine (K1.out _ _ ha).mono ?_
  rintro e w6 ⟨rfl, hb6⟩
  replace hb6 := Below.pred (w1 := w5) (by repeat (first | with_reducible exact Below.refl _ _ | with_reducible assumption | refine Below.drew ?_ | refine below_drewN ?_ | refine Below.alloc ?_ (by simp <;> omega) _ | refine below_setRow ?_ (by omega) _ | refine Below.setCell ?_ (by simp <;> omega) _)) hb6; replace ha := ha.step hb6; replace hb := hb.step hb6; replace hv2 := hv2.step hb6; replace HB := HB.trans (hb6.mono HB.size)
  go_wp2_with fail
  have hq := (Below.refl w6.heap.size w6).alloc (Nat.le_refl _) (.cells (u8s kk) 38)
  refine (K2.out _ _ (ha.step hq)).mono ?_
  rintro e w7 ⟨rfl, hb7⟩
  have R1 : RowIs w7 w6.heap.size (u8s kk) := (RowIs.new _ _ _).step hb7
  replace hb7 := Below.pred (w1 := w6) (by repeat (first | with_reducible exact Below.refl _ _ | with_reducible assumption | refine Below.drew ?_ | refine below_drewN ?_ | refine Below.alloc ?_ (by simp <;> omega) _ | refine below_setRow ?_ (by omega) _ | refine Below.setCell ?_ (by simp <;> omega) _)) hb7; replace ha := ha.step hb7; replace hb := hb.step hb7; replace hv2 := hv2.step hb7; replace HB := HB.trans (hb7.mono HB.size)
  go_wp2_with fail
  have hq := (Below.refl w7.heap.size w7).alloc (Nat.le_refl _) (.cells (u8s kk) 38)
  refine (join_bs _ [a, b, a] HJN.out _ (BsL.lit3 _ (by simp) (ha.step hq) (hb.step hq) (ha.step hq))).mono ?_
  rintro e w8 ⟨v8, rfl, hv8, hb8⟩
  have R2 : RowIs w8 w7.heap.size (u8s kk) := ((RowIs.new _ _ _).alloc _).step hb8
  rw [HJ.out] at hv8
  replace hb8 := Below.pred (w1 := w7) (by repeat (first | with_reducible exact Below.refl _ _ | with_reducible assumption | refine Below.drew ?_ | refine below_drewN ?_ | refine Below.alloc ?_ (by simp <;> omega) _ | refine below_setRow ?_ (by omega) _ | refine Below.setCell ?_ (by simp <;> omega) _)) hb8; replace ha := ha.step hb8; replace hb := hb.step hb8; replace hv2 := hv2.step hb8; replace R1 := R1.step hb8; replace HB := HB.trans (hb8.mono HB.size)
  obtain ⟨L2, hL2⟩ : ∃ L, a ++ b = L := ⟨_, rfl⟩
  obtain ⟨L3, hL3⟩ : ∃ L, L2 ++ a = L := ⟨_, rfl⟩
  obtain ⟨N2, hN2⟩ : ∃ N, L2.length = N := ⟨_, rfl⟩
  obtain ⟨N3, hN3⟩ : ∃ N, L3.length = N := ⟨_, rfl⟩
  have hs2 : N2 ≤ 400 := by rw [← hN2, ← hL2, List.length_append, ← HN.out, ← HM.out]; omega
  have hs3 : N3 ≤ 600 := by rw [← hN3, ← hL3, ← hL2, List.length_append, List.length_append, ← HN.out, ← HM.out]; omega
  have hv8' : Bs w8 v8 L3 := by rw [← hL3, ← hL2]; exact hv8
  have HL2 := Lib.hid hL2; have HL3 := Lib.hid hL3; have HN2 := Lib.hid hN2; have HN3 := Lib.hid hN3
  clear hL2 hL3 hN2 hN3 hv8
  have own0 := Own8.empty (T := 5) w8 (base := w8.heap.size) rfl (Nat.le_refl _)
  have hq0 : Below w8.heap.size w8 (w8.alloc (.cells #[] 5)) := (Below.refl _ _).alloc (Nat.le_refl _) _
  have ha0 := ha.step hq0
  go_wp2_with (first | (at_builtin; refine wpList_appendBs Try.underlying23 Try.info8 rfl (.tmp 52) (.tmp 53) rfl w8.heap.size rfl own0 rfl ha0 (List.nil_append _) HN.out.symm (by omega) (by simp) ?_; intro A1 c1 w9 own1 bel1; have hx1 := hq0.trans bel1; have hb1 := hb.step hx1; have hz1 := hx1.size) | (at_builtin; refine wpList_appendBs Try.underlying23 Try.info8 rfl (.tmp 54) (.tmp 55) rfl w8.heap.size rfl own1 rfl hb1 HL2.out HN2.out (by omega) hz1 ?_; intro A2 c2 w10 own2 bel2; have hx2 := hx1.trans bel2; have ha2 := ha.step hx2; have hz2 := hx2.size) | (at_builtin; refine wpList_appendBs Try.underlying23 Try.info8 rfl (.tmp 56) (.tmp 57) rfl w8.heap.size rfl own2 rfl ha2 HL3.out HN3.out (by omega) hz2 ?_; intro A3 c3 w11 own3 bel3; have hx3 := hx2.trans bel3))
  replace ha := ha.step hx3; replace hb := hb.step hx3; replace hv2 := hv2.step hx3; replace hv8' := hv8'.step hx3; replace R1 := R1.step hx3; replace R2 := R2.step hx3
  have hv9 := own3.bs (by rw [HN3.out]; omega)
  have HB := HB.trans (hx3.mono HB.size)
  clear own0 own1 own2 own3 hq0 hx1 hx2 bel1 bel2 bel3 ha0 hb1 ha2 hz1 hz2
  refine (X2.out _ _ _ ha hb).mono ?_
  rintro e w12 ⟨v12, rfl, hv12, hb12⟩
  replace hb12 := Below.pred (w1 := w11) (by repeat (first | with_reducible exact Below.refl _ _ | with_reducible assumption | refine Below.drew ?_ | refine below_drewN ?_ | refine Below.alloc ?_ (by simp <;> omega) _ | refine below_setRow ?_ (by omega) _ | refine Below.setCell ?_ (by simp <;> omega) _)) hb12; replace ha := ha.step hb12; replace hb := hb.step hb12; replace hv2 := hv2.step hb12; replace hv8' := hv8'.step hb12; replace hv9 := hv9.step hb12; replace R1 := R1.step hb12; replace R2 := R2.step hb12; replace HB := HB.trans (hb12.mono HB.size)
  go_wp2_with fail
  refine (refSame_bs hv2 hv12).mono ?_
  rintro e w13 ⟨rfl, hb13⟩
  replace hb13 := Below.pred (w1 := w12) (by repeat (first | with_reducible exact Below.refl _ _ | with_reducible assumption | refine Below.drew ?_ | refine below_drewN ?_ | refine Below.alloc ?_ (by simp <;> omega) _ | refine below_setRow ?_ (by omega) _ | refine Below.setCell ?_ (by simp <;> omega) _)) hb13; replace ha := ha.step hb13; replace hb := hb.step hb13; replace hv8' := hv8'.step hb13; replace hv9 := hv9.step hb13; replace R1 := R1.step hb13; replace R2 := R2.step hb13; replace HB := HB.trans (hb13.mono HB.size)
  go_wp2_with fail
  refine (S2.out _ _ _ ha hb).mono ?_
  rintro e w14 ⟨rfl, hb14⟩
  replace hb14 := Below.pred (w1 := w13) (by repeat (first | with_reducible exact Below.refl _ _ | with_reducible assumption | refine Below.drew ?_ | refine below_drewN ?_ | refine Below.alloc ?_ (by simp <;> omega) _ | refine below_setRow ?_ (by omega) _ | refine Below.setCell ?_ (by simp <;> omega) _)) hb14; replace ha := ha.step hb14; replace hb := hb.step hb14; replace hv8' := hv8'.step hb14; replace hv9 := hv9.step hb14; replace R1 := R1.step hb14; replace R2 := R2.step hb14; replace HB := HB.trans (hb14.mono HB.size)
  go_wp2_with fail
  refine (D2.out _ _ ha).mono ?_
  rintro e w15 ⟨rfl, hb15⟩
  replace hb15 := Below.pred (w1 := w14) (by repeat (first | with_reducible exact Below.refl _ _ | with_reducible assumption | refine Below.drew ?_ | refine below_drewN ?_ | refine Below.alloc ?_ (by simp <;> omega) _ | refine below_setRow ?_ (by omega) _ | refine Below.setCell ?_ (by simp <;> omega) _)) hb15; replace ha := ha.step hb15; replace hb := hb.step hb15; replace hv8' := hv8'.step hb15; replace hv9 := hv9.step hb15; replace R1 := R1.step hb15; replace R2 := R2.step hb15; replace HB := HB.trans (hb15.mono HB.size)
  have R1h := R1.has; have R1r := R1.row; have R1l := R1.lt; have R2h := R2.has; have R2r := R2.row; have R2l := R2.lt
  go_wp2_with fail
  refine (refSame_bs hv8' hv9).mono ?_
  rintro e w16 ⟨rfl, hb16⟩
  replace hb16 := Below.pred (w1 := w15) (by repeat (first | with_reducible exact Below.refl _ _ | with_reducible assumption | refine Below.drew ?_ | refine below_drewN ?_ | refine Below.alloc ?_ (by simp <;> omega) _ | refine below_setRow ?_ (by omega) _ | refine Below.setCell ?_ (by simp <;> omega) _)) hb16; replace HB := HB.trans (hb16.mono HB.size)
  go_wp2_with fail
  go_ret
  exact ⟨by simp, HB⟩
end Go.Proofs.Ytojnjaedfbokmaa
