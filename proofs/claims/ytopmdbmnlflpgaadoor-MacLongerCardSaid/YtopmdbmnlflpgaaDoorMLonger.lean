/- MacLonger: what is expanded further begins with what is expanded less far. -/
import Derived.Test.YtopmdbmnlflpgaaDoorExpO
namespace Go.Proofs.YtopmdbmnlflpgaaDoor
open Go.RowKit
attribute [local go_sem ↓] xloadK
theorem expand_all (g : Nat) (key : List UInt8) (hkey : key.length = 32) (vi : Value) (info : List UInt8) (hinfo : info.length ≤ 200) (n : Nat) (h8 : n ≤ 8160) (N : Int) (hN0 : 0 ≤ N) (hNM : N ≤ 800000) (w : World) (hm : MetB w g N) (he : ShaEnv w) (hi : Bs w vi info) :
    Calls Tryd.prog 30 #[.pointer (some ⟨g, 0, none⟩), .agg (u8s key), vi, .int .i64 n] w (ExpdRes g (N + 1020) (expB key info n) w) := by
  by_cases hz : n = 0
  · subst hz
    obtain ⟨A, c, rfl, -, -, -⟩ := id hi
    refine (expand_zero g key hkey A info.length c w).mono ?_
    rintro e w' ⟨rfl, hb⟩
    have hl : expB key info 0 = [] := List.eq_nil_of_length_eq_zero (expB_length key info 0)
    rw [hl]
    exact ⟨_, rfl, Bs.nil _, (hm.step hb).mono (by omega), Upd.of hb⟩
  · exact expand_goes g key hkey vi info hinfo n (by omega) h8 N hN0 hNM w hm he hi
set_option maxRecDepth 100000 in
set_option maxHeartbeats 3200000 in
theorem maclonger_any (key : List UInt8) (hkey : key.length = 32) (vi : Value) (info : List UInt8) (n m : Nat) (w : World) (he : ShaEnv w) (hi : Bs w vi info) (h1 : info.length ≤ 200) (hnm : n ≤ m) (hm4 : m ≤ 400) :
    Calls Tryd.prog 8 #[.agg (u8s key), vi, .int .i64 n, .int .i64 m] w (TrueRes' w) := by
  have e1 := fun g vi (w : World) h1' h2 h3 => expand_all g key hkey vi info h1 n (by omega) 0 (by omega) (by omega) w h1' h2 h3
  have e2 := fun g vi (w : World) h1' h2 h3 => expand_all g key hkey vi info h1 m (by omega) (0 + 1020) (by omega) (by omega) w h1' h2 h3
  obtain ⟨X, hX⟩ : ∃ X, X = expB key info n := ⟨_, rfl⟩
  obtain ⟨Y, hY⟩ : ∃ Y, Y = expB key info m := ⟨_, rfl⟩
  have hXl : X.length = n := by rw [hX, expB_length]
  have hYl : Y.length = m := by rw [hY, expB_length]
  have hXY : Y.take n = X := by rw [hX, hY, expB_take _ _ _ _ hnm]
  rw [← hX] at e1
  rw [← hY] at e2
  have E1 := Lib.hid e1; have E2 := Lib.hid e2; have HXY := Lib.hid hXY
  clear e1 e2 hX hY hXY
  obtain ⟨A1, c1, rfl, -, -, -⟩ := id hi
  obtain ⟨n1, hn1⟩ : ∃ n, info.length = n := ⟨_, rfl⟩
  rw [hn1] at hi h1 ⊢
  clear hn1
  have i1 : ¬ (200 : Int) < n1 := by omega
  have i2 : ¬ (n : Int) < 0 := by omega
  have i3 : ¬ (m : Int) < n := by omega
  have i4 : ¬ (400 : Int) < m := by omega
  go_enter Tryd.func8, Tryd.ntmps8
  go_wp2_with fail
  have hq0 : Below w.heap.size w (w.alloc (.cells (u8s key) 33)) := (by repeat (first | with_reducible exact Below.refl _ _ | with_reducible assumption | refine Below.drew ?_ | refine below_drewN ?_ | refine Below.alloc ?_ (by first | omega | (simp; done) | (simp; omega)) _ | refine below_setRow ?_ (by omega) _ | refine Below.setCell ?_ (by first | omega | (simp; done) | (simp; omega)) _))
  have R0 : RowIs (w.alloc (.cells (u8s key) 33)) w.heap.size (u8s key) := RowIs.new _ _ _
  replace he := he.step hq0; replace hi := hi.step hq0
  refine (awake3_any _ he).mono ?_
  rintro e w1 ⟨rfl, HB⟩
  have hr0 := R0.lt
  replace he := he.step HB; replace hi := hi.step HB; replace R0 := R0.step HB
  replace HB := hq0.trans (HB.mono hq0.size)
  clear hq0
  go_wp2_with fail
  refine (new_any false _).mono ?_
  rintro e w2 ⟨g, rfl, hm0, hg, hb2⟩
  have hr1 := R0.lt
  have hg0 : w.heap.size ≤ g := by have := HB.size; omega
  have hg1 : w.heap.size ≠ g := by omega
  replace he := he.step hb2; replace hi := hi.step hb2; replace R0 := R0.step hb2
  replace HB := HB.trans (hb2.mono HB.size)
  have hm := MetB.new hm0
  have hgl := RowIs.lt hm0
  clear hm0 hb2
  have K1 := loadK R0 hkey
  go_wp2_with fail
  refine (E1.out g _ _ hm he hi).mono ?_
  rintro e w3 ⟨va, rfl, ha, hm3, hu3⟩
  replace HB := hu3.below HB hg0 HB.size
  replace he := hm.env he hu3
  replace hi := hi.upd hu3 hm.no8
  replace R0 := R0.upd hu3 hg1
  clear hm hu3 K1
  have K2 := loadK R0 hkey
  go_wp2_with fail
  refine (E2.out g _ _ hm3 he hi).mono ?_
  rintro e w4 ⟨vb, rfl, hb, hm4', hu4⟩
  replace HB := hu4.below HB hg0 HB.size
  replace ha := ha.upd hu4 hm3.no8
  clear hm3 hu4 he hi hm4' K2 R0
  obtain ⟨Ab, cb, rfl, hb1, hb2, hb3⟩ := id hb
  rw [hYl] at hb hb1 hb2 ⊢
  have hbt : Bs w4 (.slice Ab n cb) X := by rw [← HXY.out]; exact Bs.take hb n hnm
  go_wp2_with fail
  refine (refSame_bs ha hbt).mono ?_
  rintro e w5 ⟨rfl, hb5⟩
  replace HB := HB.trans (hb5.mono HB.size)
  go_wp2_with fail
  go_ret
  exact ⟨by simp, HB⟩
theorem walk_MacLonger (key : List UInt8) (A1 : Option Addr) (c1 : Nat) (info : List UInt8) (n m : Int) (w : World) (he : ShaEnv w) (hl : key.length = 32) (hc1 : info.length ≤ c1) (hr1 : Rd8 w w.heap.size A1 info) (lo2 : -9223372036854775808 ≤ n) (hi2 : n ≤ 9223372036854775807) (lo3 : -9223372036854775808 ≤ m) (hi3 : m ≤ 9223372036854775807) :
    Calls Tryd.prog 8 #[.agg (u8s key), .slice A1 info.length c1, .int .i64 n, .int .i64 m] w (TrueRes' w) := by
  by_cases h : info.length ≤ 200 ∧ 0 ≤ n ∧ n ≤ m ∧ m ≤ 400
  · obtain ⟨h1, h2, h3, h4⟩ := h
    obtain ⟨a, rfl⟩ : ∃ a : Nat, n = (a : Int) := ⟨n.toNat, by omega⟩
    obtain ⟨b, rfl⟩ : ∃ b : Nat, m = (b : Int) := ⟨m.toNat, by omega⟩
    exact maclonger_any key hl _ info a b w he (Bs.of hc1 (by omega) hr1) h1 (by omega) (by omega)
  · obtain ⟨n1, hn1⟩ : ∃ n, info.length = n := ⟨_, rfl⟩
    rw [hn1] at h ⊢
    clear hr1 hc1 hn1
    have hd : (decide ((200 : Int) < n1) || decide (n < 0) || decide (m < n) || decide ((400 : Int) < m)) = true := by simp; omega
    have hq0 : Below w.heap.size w (w.alloc (.cells (u8s key) 33)) := (by repeat (first | with_reducible exact Below.refl _ _ | with_reducible assumption | refine Below.drew ?_ | refine below_drewN ?_ | refine Below.alloc ?_ (by first | omega | (simp; done) | (simp; omega)) _ | refine below_setRow ?_ (by omega) _ | refine Below.setCell ?_ (by first | omega | (simp; done) | (simp; omega)) _))
    go_enter Tryd.func8, Tryd.ntmps8
    go_wp2_with (go_at_call 29; refine (awake3_any _ (he.step hq0)).mono ?_; rintro e w1 ⟨rfl, hb1⟩)
    all_goals (go_ret; exact ⟨rfl, hq0.trans (Below.mono (by assumption) hq0.size)⟩)
end Go.Proofs.YtopmdbmnlflpgaaDoor
