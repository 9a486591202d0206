/- DrawsPlays: the walk of the statement's function. -/
import Derived.Test.YtopmdbmnlflpgaaDoorDrs
import Derived.Test.YtopmdbmnlflpgaaDoorDOps
namespace Go.Proofs.YtopmdbmnlflpgaaDoor
open Go.RowKit
attribute [local go_sem ↓] xsrcBuild xrefSrcBuild xbslK kloadX xlogBuild
attribute [local go_sem] srcBuild2 refSrcBuild2 bslK1 logBuild
def NextU (g s : Nat) (N : Int) (key : List UInt8) (m : UInt64) (K : List UInt8) (c : Int) (w : World) (e : Ending) (w' : World) : Prop :=
  e = .returned (.tuple #[.agg (u8s K), .int .i64 c]) ∧ Src w' s key m ∧ MetB w' g N ∧ Upd2 g s w w'
def RNextU (g s : Nat) (N : Int) (key : List UInt8) (m : UInt64) (K : List UInt8) (c : Int) (w : World) (e : Ending) (w' : World) : Prop :=
  e = .returned (.tuple #[.agg (u8s K), .int .i64 c]) ∧ Src w' s key m ∧ LogB w' g N ∧ Upd2 g s w w'
theorem next_both (key : List UInt8) (hkey : key.length = 32) (m : UInt64) (lab : List UInt8) (hlab : lab.length ≤ 50) : ∃ K c m', K.length = 32 ∧
    (∀ (g s : Nat) (N : Int) (w : World), g ≠ s → N ≤ 800000 → MetB w g N → ShaEnv w → Src w s key m → Calls Tryd.prog 50 #[.pointer (some ⟨s, 0, none⟩), .pointer (some ⟨g, 0, none⟩), .string ⟨lab.toArray⟩] w (NextU g s (N + 8) key m' K c w)) ∧
    (∀ (g s : Nat) (N : Int) (w : World), g ≠ s → N ≤ 800000 → LogB w g N → Src w s key m → Calls Tryd.prog 51 #[.pointer (some ⟨s, 0, none⟩), .pointer (some ⟨g, 0, none⟩), .string ⟨lab.toArray⟩] w (RNextU g s (N + 8) key m' K c w)) := by
  by_cases hm : m = 18446744073709551615
  · subst hm
    refine ⟨zeros 32, 70, 18446744073709551615, zeros_length 32, fun g s N w _ _ h2 _ h4 => ?_, fun g s N w _ _ h2 h4 => ?_⟩
    · refine (next_full g s key hkey _ w h4).mono ?_
      rintro e w' ⟨rfl, hb⟩
      exact ⟨rfl, RowIs.step h4 hb, (h2.step hb).mono (by omega), Upd2.of (Upd.of hb)⟩
    · refine (refNext_full g s key hkey _ w h4).mono ?_
      rintro e w' ⟨rfl, hb⟩
      exact ⟨rfl, RowIs.step h4 hb, (h2.step hb).mono (by omega), Upd2.of (Upd.of hb)⟩
  · refine ⟨drwK key m lab, 0, m + 1, drwK_length _ _ _, fun g s N w h1 h1' h2 h3 h4 => ?_, fun g s N w h1 h1' h2 h4 => ?_⟩
    · refine (next_any g s h1 N key hkey m hm lab (by omega) w h2 h3 h4 h1').mono ?_
      rintro e w' ⟨rfl, h5, h6, h7⟩
      exact ⟨by rw [drwK_def], h5, h6.mono (by omega), h7⟩
    · refine (refNext_any g s h1 N key hkey m hm lab (by omega) w h2 h4 h1').mono ?_
      rintro e w' ⟨rfl, h5, h6, h7⟩
      exact ⟨by rw [drwK_def], h5, h6.mono (by omega), h7⟩
def SomeU (g s : Nat) (N : Int) (key : List UInt8) (m : UInt64) (ks : List (List UInt8)) (c : Int) (w : World) (e : Ending) (w' : World) : Prop :=
  ∃ v, e = .returned (.tuple #[v, .int .i64 c]) ∧ OwnK w' w.heap.size v ks ∧ Src w' s key m ∧ MetB w' g N ∧ Upd2 g s w w'
def RSomeU (g s : Nat) (N : Int) (key : List UInt8) (m : UInt64) (ks : List (List UInt8)) (c : Int) (w : World) (e : Ending) (w' : World) : Prop :=
  ∃ v, e = .returned (.tuple #[v, .int .i64 c]) ∧ OwnK w' w.heap.size v ks ∧ Src w' s key m ∧ LogB w' g N ∧ Upd2 g s w w'
theorem lab2_le (a b : List UInt8) (ha : a.length ≤ 50) (hb : b.length ≤ 50) : ∀ k, k < [a, b].length → (nthL [a, b] k).length ≤ 300 := fun k hk => by
  have hk' : k < 2 := hk
  have : k = 0 ∨ k = 1 := by omega
  rcases this with rfl | rfl <;> (simp [nthL_def]; omega)
theorem some_both (key : List UInt8) (hkey : key.length = 32) (m : UInt64) (a b : List UInt8) (ha : a.length ≤ 50) (hb : b.length ≤ 50) : ∃ ks c m', (∀ k ∈ ks, k.length = 32) ∧ ks.length ≤ 2 ∧
    (∀ (g s lb : Nat) (N : Int) (w : World), g ≠ s → lb ≠ g → lb ≠ s → N ≤ 700000 → MetB w g N → ShaEnv w → NotEnv g s → Src w s key m → RowIs w lb #[.string ⟨a.toArray⟩, .string ⟨b.toArray⟩] → Calls Tryd.prog 52 #[.pointer (some ⟨s, 0, none⟩), .pointer (some ⟨g, 0, none⟩), .slice (some ⟨lb, 0, none⟩) 2 2] w (SomeU g s (N + 8) key m' ks c w)) ∧
    (∀ (g s lb : Nat) (N : Int) (w : World), g ≠ s → lb ≠ g → lb ≠ s → N ≤ 700000 → LogB w g N → Src w s key m → RowIs w lb #[.string ⟨a.toArray⟩, .string ⟨b.toArray⟩] → Calls Tryd.prog 53 #[.pointer (some ⟨s, 0, none⟩), .pointer (some ⟨g, 0, none⟩), .slice (some ⟨lb, 0, none⟩) 2 2] w (RSomeU g s (N + 8) key m' ks c w)) := by
  by_cases hm : m.toNat + 2 ≤ 18446744073709551615
  · refine ⟨drwsK key m [a, b] 2, 0, m + UInt64.ofNat 2, drwsK_all key m [a, b] 2, by rw [drwsK_length]; omega, fun g s lb N w h1 h1' h1'' h2 h3 h4 h5 h6 h7 => ?_, fun g s lb N w h1 h1' h1'' h2 h3 h6 h7 => ?_⟩
    · refine (some_any g s h1 N key hkey m lb h1' h1'' [a, b] (by simp) hm (lab2_le a b ha hb) w h3 h4 h5 h6 h7 h2).mono ?_
      rintro e w' ⟨v, rfl, h8, h9, h10, h11⟩
      exact ⟨v, rfl, h8, h9, h10.mono (by simp), h11⟩
    · refine (refsome_any g s h1 N key hkey m lb h1' h1'' [a, b] (by simp) hm (lab2_le a b ha hb) w h3 h6 h7 h2).mono ?_
      rintro e w' ⟨v, rfl, h8, h9, h10, h11⟩
      exact ⟨v, rfl, h8, h9, h10.mono (by simp), h11⟩
  · refine ⟨[], 70, m, by simp, by simp, fun g s lb N w _ _ _ _ h3 _ _ h6 _ => ?_, fun g s lb N w _ _ _ _ h3 h6 _ => ?_⟩
    · refine (some_full _ s key hkey m lb 2 (by omega) hm w h6).mono ?_
      rintro e w' ⟨rfl, rfl⟩
      exact ⟨_, rfl, OwnK.nil _ _, h6, h3.mono (by omega), Upd2.of (Upd.refl _ _)⟩
    · refine (refsome_full _ s key hkey m lb 2 (by omega) hm w h6).mono ?_
      rintro e w' ⟨rfl, rfl⟩
      exact ⟨_, rfl, OwnK.nil _ _, h6, h3.mono (by omega), Upd2.of (Upd.refl _ _)⟩
def JumpU (s : Nat) (key : List UInt8) (m : UInt64) (c : Int) (w : World) (e : Ending) (w' : World) : Prop := e = .returned (.int .i64 c) ∧ Src w' s key m ∧ Upd s w w'
theorem jump_both (key : List UInt8) (hkey : key.length = 32) (m n : UInt64) : ∃ c m',
    (∀ (s : Nat) (w : World), Src w s key m → Calls Tryd.prog 54 #[.pointer (some ⟨s, 0, none⟩), .int .u64 (n64 n)] w (JumpU s key m' c w)) ∧
    (∀ (s : Nat) (w : World), Src w s key m → Calls Tryd.prog 55 #[.pointer (some ⟨s, 0, none⟩), .int .u64 (n64 n)] w (JumpU s key m' c w)) := by
  by_cases h : n.toNat < m.toNat
  · refine ⟨70, m, fun s w hS => ?_, fun s w hS => ?_⟩
    · refine (jump_lo s key hkey m n h w hS).mono ?_
      rintro e w' ⟨rfl, rfl⟩
      exact ⟨rfl, hS, Upd.refl _ _⟩
    · refine (refjump_lo s key hkey m n h w hS).mono ?_
      rintro e w' ⟨rfl, rfl⟩
      exact ⟨rfl, hS, Upd.refl _ _⟩
  · exact ⟨0, n, fun s w hS => (jump_ok s key hkey m n h w hS).mono fun e w' h => h, fun s w hS => (refjump_ok s key hkey m n h w hS).mono fun e w' h => h⟩
def TwoSrc (s t : Nat) (key : List UInt8) (m : UInt64) (w : World) : Prop := Src w s key m ∧ Src w t key m
theorem TwoSrc.step {s t : Nat} {key : List UInt8} {m : UInt64} {w w' : World} (h : TwoSrc s t key m w) (hb : Below w.heap.size w w') : TwoSrc s t key m w' := ⟨RowIs.step h.1 hb, RowIs.step h.2 hb⟩
def Lab2 (g o : Nat) (S1 S2 : ByteArray) (w : World) : Prop := w.cell? ⟨g, o + 1, none⟩ = some (.string S1) ∧ w.cell? ⟨g, o + 2, none⟩ = some (.string S2)
set_option maxRecDepth 100000 in
set_option maxHeartbeats 6400000 in
theorem drawsplays_any (key : List UInt8) (hkey : key.length = 32) (n : UInt64) (A : Option Addr) (c : Nat) (xs : List DOp) (w : World) (he : ShaEnv w) (hr : RdDOps w w.heap.size A xs) (hl : xs.length ≤ 30) :
    Calls Tryd.prog 15 #[.agg (u8s key), .int .u64 (n64 n), .slice A xs.length c] w (TrueRes' w) := by
  have hq0 : Below w.heap.size w (w.alloc (.cells (u8s key) 33)) := (by repeat (first | with_reducible exact Below.refl _ _ | with_reducible assumption | refine Below.drew ?_ | refine below_drewN ?_ | refine Below.alloc ?_ (by first | omega | (simp; done) | (simp; omega)) _ | refine below_setRow ?_ (by omega) _ | refine Below.setCell ?_ (by first | omega | (simp; done) | (simp; omega)) _))
  have R0 : RowIs (w.alloc (.cells (u8s key) 33)) w.heap.size (u8s key) := RowIs.new _ _ _
  have he1 := he.rounds.lt
  have he2 := he.start.lt
  have HR := Lib.hid hr
  obtain ⟨len, hlen⟩ : ∃ len, len = xs.length := ⟨_, rfl⟩
  have HL := Lib.hid hlen
  rw [← hlen] at hl ⊢
  have i1 : ¬ (30 : Int) < len := by omega
  clear hlen hr
  go_enter Tryd.func15, Tryd.ntmps15
  go_wp2_with fail
  refine (awake13_any _ (he.step hq0)).mono ?_
  rintro e w1 ⟨rfl, HB⟩
  replace he := he.step hq0
  replace he := he.step HB; replace R0 := R0.step HB
  replace HB := hq0.trans (HB.mono hq0.size)
  clear hq0
  go_wp2_with fail
  refine (new_any false _).mono ?_
  rintro e w2 ⟨g, rfl, hm0, hg, hb2⟩
  have hg0 : w.heap.size ≤ g := by have := HB.size; omega
  have hr1 := R0.lt
  replace he := he.step hb2; replace R0 := R0.step hb2
  replace HB := HB.trans (hb2.mono HB.size)
  have hm := MetB.new hm0
  have hgl := RowIs.lt hm0
  clear hm0 hb2
  have hbz := HB.size
  have hA1 : Below w2.heap.size w2 (w2.alloc (.cells (logC 0) 44)) := (by repeat (first | with_reducible exact Below.refl _ _ | with_reducible assumption | refine Below.drew ?_ | refine below_drewN ?_ | refine Below.alloc ?_ (by first | omega | (simp; done) | (simp; omega)) _ | refine below_setRow ?_ (by omega) _ | refine Below.setCell ?_ (by first | omega | (simp; done) | (simp; omega)) _))
  have hA2 : Below w2.heap.size w2 ((w2.alloc (.cells (logC 0) 44)).alloc (.cells (srcC key n) 83)) := (by repeat (first | with_reducible exact Below.refl _ _ | with_reducible assumption | refine Below.drew ?_ | refine below_drewN ?_ | refine Below.alloc ?_ (by first | omega | (simp; done) | (simp; omega)) _ | refine below_setRow ?_ (by omega) _ | refine Below.setCell ?_ (by first | omega | (simp; done) | (simp; omega)) _))
  have hA3 : Below w2.heap.size w2 (((w2.alloc (.cells (logC 0) 44)).alloc (.cells (srcC key n) 83)).alloc (.cells (srcC key n) 85)) := (by repeat (first | with_reducible exact Below.refl _ _ | with_reducible assumption | refine Below.drew ?_ | refine below_drewN ?_ | refine Below.alloc ?_ (by first | omega | (simp; done) | (simp; omega)) _ | refine below_setRow ?_ (by omega) _ | refine Below.setCell ?_ (by first | omega | (simp; done) | (simp; omega)) _))
  have K1 := kload (R0.step hA1) hkey
  have K2 := kload (R0.step hA2) hkey
  have hq : LogB (((w2.alloc (.cells (logC 0) 44)).alloc (.cells (srcC key n) 83)).alloc (.cells (srcC key n) 85)) w2.heap.size 0 := ⟨0, by omega, by omega, ((RowIs.new _ _ _).alloc _).alloc _⟩
  have hs : Src (((w2.alloc (.cells (logC 0) 44)).alloc (.cells (srcC key n) 83)).alloc (.cells (srcC key n) 85)) (w2.heap.size + 1) key n := (RowIs.new' (by simp)).alloc _
  have ht : Src (((w2.alloc (.cells (logC 0) 44)).alloc (.cells (srcC key n) 83)).alloc (.cells (srcC key n) 85)) (w2.heap.size + 1 + 1) key n := RowIs.new' (by simp)
  replace he := he.step hA3; replace hm := hm.step hA3
  replace HB := HB.trans (hA3.mono HB.size)
  have hx1 : NotEnv g (w2.heap.size + 1) := ⟨by omega, by omega, by omega, by omega⟩
  have hx2 : NotEnv w2.heap.size (w2.heap.size + 1 + 1) := ⟨by omega, by omega, by omega, by omega⟩
  go_wp2_with fail
  obtain ⟨w3, hw3⟩ : ∃ w3, w3 = (((w2.alloc (.cells (logC 0) 44)).alloc (.cells (srcC key n) 83)).alloc (.cells (srcC key n) 85)) := ⟨_, rfl⟩
  have hs3 : w2.heap.size + 3 ≤ w3.heap.size := by rw [hw3]; simp
  rw [← hw3] at hq hs ht he hm HB ⊢
  clear hA1 hA2 hA3 K1 K2 R0 hw3
  go_loopw [12, 13, 14, 15, 16, 17, 18, 19, 20] (fun i _ _ _ _ _ _ _ _ wr => ∃ (k : Nat) (m : UInt64), i = .int .i64 k ∧ k ≤ len ∧ Src wr (w2.heap.size + 1) key m ∧ Src wr (w2.heap.size + 1 + 1) key m ∧ MetB wr g (100 * k) ∧ LogB wr w2.heap.size (100 * k) ∧ ShaEnv wr ∧ Below w.heap.size w wr) (fun i _ _ _ _ _ _ _ _ _ => len - (intOf i).toNat)
  case atStart => exact ⟨0, n, rfl, by omega, hs, ht, hm.mono (by omega), hq.mono (by omega), he, HB⟩
  case round =>
    clear hs ht hm hq he HB
    obtain ⟨k, m, rfl, hk, hs, ht, hm, hq, he, HB⟩ := hrel
    by_cases hlt : k < len
    · have hlt' : k < xs.length := by rw [← HL.out]; exact hlt
      obtain ⟨gl, ol, rfl, hgl1, hat⟩ := HR.out (by omega)
      obtain ⟨y, hy⟩ : ∃ y, y = xs.getD k dop0 := ⟨_, rfl⟩
      have hat := hat k hlt'
      rw [← hy] at hat
      obtain ⟨d, one, two, nn⟩ := y
      obtain ⟨t0, t1, t2, t3⟩ := hat
      simp only at t0 t1 t2 t3
      obtain ⟨S1, hS1⟩ : ∃ S : ByteArray, S = ⟨one.toArray⟩ := ⟨_, rfl⟩
      obtain ⟨S2, hS2⟩ : ∃ S : ByteArray, S = ⟨two.toArray⟩ := ⟨_, rfl⟩
      have hz1 : S1.size = one.length := by rw [hS1]; simp [ByteArray.size]
      have hz2 : S2.size = two.length := by rw [hS2]; simp [ByteArray.size]
      rw [← hS1] at t1
      rw [← hS2] at t2
      obtain ⟨l1, hl1⟩ : ∃ l, l = one.length := ⟨_, rfl⟩
      obtain ⟨l2, hl2⟩ : ∃ l, l = two.length := ⟨_, rfl⟩
      rw [← hl1] at hz1
      rw [← hl2] at hz2
      have f0 := (HB.cell (p := ⟨gl, ol + k * 4, none⟩) hgl1).trans t0
      have f1 := (HB.cell (p := ⟨gl, ol + k * 4 + 1, none⟩) hgl1).trans t1
      have f2 := (HB.cell (p := ⟨gl, ol + k * 4 + 2, none⟩) hgl1).trans t2
      have f3 := (HB.cell (p := ⟨gl, ol + k * 4 + 3, none⟩) hgl1).trans t3
      have hk0 : (0 : Int) ≤ (k : Int) := by omega
      have hk1 : (k : Int) < len := by omega
      by_cases h50 : l1 ≤ 50 ∧ l2 ≤ 50
      · have j1 : ¬ (50 : Int) < l1 := by omega
        have j2 : ¬ (50 : Int) < l2 := by omega
        by_cases hd1 : d = 1
        · subst hd1
          obtain ⟨K, cc, m', hKl, N1, N2⟩ := next_both key hkey m one (by rw [← hl1]; omega)
          rw [← hS1] at N1 N2
          have HN1 := Lib.hid N1; have HN2 := Lib.hid N2
          clear N1 N2 hS1 hS2 hl1 hl2
          go_wp2_with fail
          refine (HN1.out g (w2.heap.size + 1) (100 * k) wr (by omega) (by omega) hm he hs).mono ?_
          rintro e w4 ⟨rfl, hs4, hm4, hU⟩
          replace ht : Src w4 (w2.heap.size + 1 + 1) key m := RowIs.upd2 ht hU (by omega) (by omega)
          replace he := he.upd2 hx1 hU
          replace hq : LogB w4 w2.heap.size (100 * k) := by obtain ⟨i, q0, q1, q2⟩ := hq; exact ⟨i, q0, q1, q2.upd2 hU (by omega) (by omega)⟩
          have hbz1 := HB.size
          replace HB := hU.below HB (by omega) (by omega) HB.size
          have hsz := hU.size
          have hsl := RowIs.lt hs
          have htl := RowIs.lt ht
          have hb : Below w4.heap.size w4 (w4.alloc (.cells (u8s K) 33)) := (by repeat (first | with_reducible exact Below.refl _ _ | with_reducible assumption | refine Below.drew ?_ | refine below_drewN ?_ | refine Below.alloc ?_ (by first | omega | (simp; done) | (simp; omega)) _ | refine below_setRow ?_ (by omega) _ | refine Below.setCell ?_ (by first | omega | (simp; done) | (simp; omega)) _))
          have Q1 : RowIs (w4.alloc (.cells (u8s K) 33)) w4.heap.size (u8s K) := RowIs.new _ _ _
          replace hs : Src _ (w2.heap.size + 1) key m' := RowIs.step hs4 hb
          replace ht : Src _ (w2.heap.size + 1 + 1) key m := RowIs.step ht hb
          replace hm := hm4.step hb
          replace hq := hq.step hb; replace he := he.step hb
          replace HB := HB.trans (hb.mono HB.size)
          have g1 := (HB.cell (p := ⟨gl, ol + k * 4 + 1, none⟩) hgl1).trans t1
          clear hb hU hs4 hm4
          go_wp2_with fail
          refine (HN2.out w2.heap.size (w2.heap.size + 1 + 1) (100 * k) _ (by omega) (by omega) hq ht).mono ?_
          rintro e w5 ⟨rfl, ht5, hq5, hU⟩
          have hbz2 := HB.size
          have hgl4 := hm.lt
          replace hs : Src w5 (w2.heap.size + 1) key m' := RowIs.upd2 hs hU (by omega) (by omega)
          replace he := he.upd2 hx2 hU
          replace hm : MetB w5 g (100 * k + 8) := by obtain ⟨i, q0, q1, q2⟩ := hm; exact ⟨i, q0, q1, RowIs.upd2 q2 hU (by omega) (by omega)⟩
          replace Q1 := Q1.upd2 hU (by omega) (by omega)
          replace HB := hU.below HB (by omega) (by omega) HB.size
          have hsz2 := hU.size
          have hb : Below w5.heap.size w5 (((w5.alloc (.cells (u8s K) 33)).alloc (.cells (u8s K) 33)).alloc (.cells (u8s K) 33)) := (by repeat (first | with_reducible exact Below.refl _ _ | with_reducible assumption | refine Below.drew ?_ | refine below_drewN ?_ | refine Below.alloc ?_ (by first | omega | (simp; done) | (simp; omega)) _ | refine below_setRow ?_ (by omega) _ | refine Below.setCell ?_ (by first | omega | (simp; done) | (simp; omega)) _))
          have hb1 : Below w5.heap.size w5 (w5.alloc (.cells (u8s K) 33)) := (by repeat (first | with_reducible exact Below.refl _ _ | with_reducible assumption | refine Below.drew ?_ | refine below_drewN ?_ | refine Below.alloc ?_ (by first | omega | (simp; done) | (simp; omega)) _ | refine below_setRow ?_ (by omega) _ | refine Below.setCell ?_ (by first | omega | (simp; done) | (simp; omega)) _))
          have hb2 : Below w5.heap.size w5 ((w5.alloc (.cells (u8s K) 33)).alloc (.cells (u8s K) 33)) := (by repeat (first | with_reducible exact Below.refl _ _ | with_reducible assumption | refine Below.drew ?_ | refine below_drewN ?_ | refine Below.alloc ?_ (by first | omega | (simp; done) | (simp; omega)) _ | refine below_setRow ?_ (by omega) _ | refine Below.setCell ?_ (by first | omega | (simp; done) | (simp; omega)) _))
          have L1 := kload (Q1.step hb1) hKl
          have Q2 : RowIs (w5.alloc (.cells (u8s K) 33)) w5.heap.size (u8s K) := RowIs.new _ _ _
          have L2 := kload (Q2.alloc (.cells (u8s K) 33)) hKl
          have hka : KsL (((w5.alloc (.cells (u8s K) 33)).alloc (.cells (u8s K) 33)).alloc (.cells (u8s K) 33)) (.slice (some ⟨w5.heap.size + 1, 0, none⟩) 1 1) [K] := KsL.row ((RowIs.new' (by simp)).alloc _)
          have hkb : KsL (((w5.alloc (.cells (u8s K) 33)).alloc (.cells (u8s K) 33)).alloc (.cells (u8s K) 33)) (.slice (some ⟨w5.heap.size + 1 + 1, 0, none⟩) 1 1) [K] := KsL.row (RowIs.new' (by simp))
          have hks : ∀ x ∈ [K], x.length = 32 := by simp [hKl]
          replace hs : Src _ (w2.heap.size + 1) key m' := RowIs.step hs hb
          replace ht : Src _ (w2.heap.size + 1 + 1) key m' := RowIs.step ht5 hb
          replace hq := hq5.step hb
          replace hm := hm.step hb; replace he := he.step hb
          replace HB := HB.trans (hb.mono HB.size)
          clear hb hU ht5 hq5 Q1 Q2 hb1 hb2 g1 f0 f1 f2 f3
          go_wp2_with fail
          obtain ⟨z, hz⟩ : ∃ z, z = ((w5.alloc (.cells (u8s K) 33)).alloc (.cells (u8s K) 33)).alloc (.cells (u8s K) 33) := ⟨_, rfl⟩
          rw [← hz] at hs ht hm hq he HB hka hkb ⊢
          clear hz
          refine wp_region_lexS [] [13, 17, 24, 28] (TwoSrc (w2.heap.size + 1) (w2.heap.size + 1 + 1) key m') (by kernel_rfl) (by decide +kernel) ⟨RowIs.drew hs, RowIs.drew ht⟩ (fun hS => ?_)
          have hd : Below z.heap.size z z.drew := (by repeat (first | with_reducible exact Below.refl _ _ | with_reducible assumption | refine Below.drew ?_ | refine below_drewN ?_ | refine Below.alloc ?_ (by first | omega | (simp; done) | (simp; omega)) _ | refine below_setRow ?_ (by omega) _ | refine Below.setCell ?_ (by first | omega | (simp; done) | (simp; omega)) _))
          replace hm := hm.step hd; replace hq := hq.step hd; replace he := he.step hd; replace hka := hka.step hd; replace hkb := hkb.step hd
          replace HB := HB.trans (hd.mono HB.size)
          clear hs ht hd
          generalize z.drew = x at hS hm hq he HB hka hkb ⊢
          (go_wp2_with (first | (refine wpLexS_nil ?_) | (refine wpLexS_pure rfl (fun _ _ => ?_); go_simp; refine ⟨_, fun w9 hw9 => (by have s1 := hw9.1.num hkey; have s2 := hw9.2.num hkey; have s3 := hw9.1.seed hkey; have s4 := hw9.2.seed hkey; go_simp; rfl), ?_⟩) | (refine wpLexS_pure0 rfl (fun _ _ => ?_); go_simp; try go_bits) | (refine wpLexS_read rfl (fun _ _ => ?_); go_simp; try go_bits) | (refine wpLexS_loud rfl (fun KL hKL => ?_))))
          refine (keys_same _ _ [K] hks (by simp) _ hka hkb).mono ?_
          rintro e x1 ⟨rfl, hb⟩
          replace hS := hS.step hb
          replace hm := hm.step hb; replace hq := hq.step hb; replace he := he.step hb
          replace HB := HB.trans (hb.mono HB.size)
          clear hka hkb hb
          go_wp2_with fail
          refine hKL _ _ hS (fun _ => ?_)
          (go_wp2_with (first | (refine wpLexS_nil ?_) | (refine wpLexS_pure rfl (fun _ _ => ?_); go_simp; refine ⟨_, fun w9 hw9 => (by have s1 := hw9.1.num hkey; have s2 := hw9.2.num hkey; have s3 := hw9.1.seed hkey; have s4 := hw9.2.seed hkey; go_simp; rfl), ?_⟩) | (refine wpLexS_pure0 rfl (fun _ _ => ?_); go_simp; try go_bits) | (refine wpLexS_read rfl (fun _ _ => ?_); go_simp; try go_bits) | (refine wpLexS_loud rfl (fun KL hKL => ?_))))
          go_wp2_with fail
          exact ⟨⟨k + 1, m', by go_num, by omega, hS.1, hS.2, hm.mono (by omega), hq.mono (by omega), he, HB⟩, by simp [intOf]; omega⟩
        · have e1 : (d == 1) = false := by simpa using hd1
          by_cases hd2 : d = 2
          · subst hd2
            obtain ⟨ks, cc, m', hks, hkl, N1, N2⟩ := some_both key hkey m one two (by rw [← hl1]; omega) (by rw [← hl2]; omega)
            rw [← hS1, ← hS2] at N1 N2
            have HN1 := Lib.hid N1; have HN2 := Lib.hid N2
            have hlab : ∀ W, Below w.heap.size w W → Lab2 gl (ol + k * 4) S1 S2 W := fun W h => ⟨(h.cell (p := ⟨gl, ol + k * 4 + 1, none⟩) hgl1).trans t1, (h.cell (p := ⟨gl, ol + k * 4 + 2, none⟩) hgl1).trans t2⟩
            have HLAB := Lib.hid hlab
            clear N1 N2 hS1 hS2 hl1 hl2 hlab
            go_wp2_with fail
            have hd : Below wr.heap.size wr wr.drew := (by repeat (first | with_reducible exact Below.refl _ _ | with_reducible assumption | refine Below.drew ?_ | refine below_drewN ?_ | refine Below.alloc ?_ (by first | omega | (simp; done) | (simp; omega)) _ | refine below_setRow ?_ (by omega) _ | refine Below.setCell ?_ (by first | omega | (simp; done) | (simp; omega)) _))
            replace hs : Src wr.drew (w2.heap.size + 1) key m := RowIs.step hs hd
            replace ht : Src wr.drew (w2.heap.size + 1 + 1) key m := RowIs.step ht hd
            replace hm := hm.step hd; replace hq := hq.step hd; replace he := he.step hd
            replace HB := HB.trans (hd.mono HB.size)
            refine wp_region_lexS [] [6, 11] (Lab2 gl (ol + k * 4) S1 S2) (by kernel_rfl) (by decide +kernel) (HLAB.out _ HB) (fun _ => ?_)
            generalize wr.drew = x at hs ht hm hq he HB ⊢
            clear hd f0 f1 f2 f3
            (go_wp2_with (first | (refine wpLexS_nil ?_) | (refine wpLexS_pure rfl (fun _ _ => ?_); go_simp; refine ⟨_, fun w9 hw9 => (by have s1 := hw9.1; have s2 := hw9.2; go_simp; rfl), ?_⟩) | (refine wpLexS_pure0 rfl (fun _ _ => ?_); go_simp; try go_bits) | (refine wpLexS_read rfl (fun _ _ => ?_); go_simp; try go_bits) | (refine wpLexS_loud rfl (fun KL hKL => ?_))))
            have hb : Below x.heap.size x (x.alloc (.cells #[.string S1, .string S2] 9)) := (by repeat (first | with_reducible exact Below.refl _ _ | with_reducible assumption | refine Below.drew ?_ | refine below_drewN ?_ | refine Below.alloc ?_ (by first | omega | (simp; done) | (simp; omega)) _ | refine below_setRow ?_ (by omega) _ | refine Below.setCell ?_ (by first | omega | (simp; done) | (simp; omega)) _))
            have hr : RowIs (x.alloc (.cells #[.string S1, .string S2] 9)) x.heap.size #[.string S1, .string S2] := RowIs.new _ _ _
            have hgx := hm.lt
            have hqx := hq.lt
            have hsx := RowIs.lt hs
            have htx := RowIs.lt ht
            replace hs : Src _ (w2.heap.size + 1) key m := RowIs.step hs hb
            replace ht : Src _ (w2.heap.size + 1 + 1) key m := RowIs.step ht hb
            replace hm := hm.step hb; replace hq := hq.step hb; replace he := he.step hb
            replace HB := HB.trans (hb.mono HB.size)
            refine hKL _ _ (HLAB.out _ HB) (fun _ => ?_)
            clear hb
            (go_wp2_with (first | (refine wpLexS_nil ?_) | (refine wpLexS_pure rfl (fun _ _ => ?_); go_simp; refine ⟨_, fun w9 hw9 => (by have s1 := hw9.1; have s2 := hw9.2; go_simp; rfl), ?_⟩) | (refine wpLexS_pure0 rfl (fun _ _ => ?_); go_simp; try go_bits) | (refine wpLexS_read rfl (fun _ _ => ?_); go_simp; try go_bits) | (refine wpLexS_loud rfl (fun KL hKL => ?_))))
            refine (HN1.out g (w2.heap.size + 1) x.heap.size (100 * k) _ (by omega) (by omega) (by omega) (by omega) hm he hx1 hs hr).mono ?_
            rintro e w4 ⟨v4, rfl, own, hs4, hm4, hU⟩
            obtain ⟨A4, c4, rfl⟩ := own.slice
            replace own := own.more (show x.heap.size ≤ _ by simp)
            replace ht : Src w4 (w2.heap.size + 1 + 1) key m := RowIs.upd2 ht hU (by omega) (by omega)
            replace he := he.upd2 hx1 hU
            replace hq : LogB w4 w2.heap.size (100 * k) := by obtain ⟨i, q0, q1, q2⟩ := hq; exact ⟨i, q0, q1, q2.upd2 hU (by omega) (by omega)⟩
            replace HB := hU.below HB (by omega) (by omega) HB.size
            have hsz := hU.size
            simp at hsz
            clear hU hm hs hr
            go_wp2_with fail
            refine hKL _ _ (HLAB.out _ HB) (fun _ => ?_)
            (go_wp2_with (first | (refine wpLexS_nil ?_) | (refine wpLexS_pure rfl (fun _ _ => ?_); go_simp; refine ⟨_, fun w9 hw9 => (by have s1 := hw9.1; have s2 := hw9.2; go_simp; rfl), ?_⟩) | (refine wpLexS_pure0 rfl (fun _ _ => ?_); go_simp; try go_bits) | (refine wpLexS_read rfl (fun _ _ => ?_); go_simp; try go_bits) | (refine wpLexS_loud rfl (fun KL hKL => ?_))))
            go_wp2_with fail
            have hd : Below w4.heap.size w4 w4.drew := (by repeat (first | with_reducible exact Below.refl _ _ | with_reducible assumption | refine Below.drew ?_ | refine below_drewN ?_ | refine Below.alloc ?_ (by first | omega | (simp; done) | (simp; omega)) _ | refine below_setRow ?_ (by omega) _ | refine Below.setCell ?_ (by first | omega | (simp; done) | (simp; omega)) _))
            replace hs4 : Src w4.drew (w2.heap.size + 1) key m' := RowIs.step hs4 hd
            replace ht : Src w4.drew (w2.heap.size + 1 + 1) key m := RowIs.step ht hd
            replace hm4 := hm4.step hd; replace hq := hq.step hd; replace he := he.step hd; replace own := own.step hd
            replace HB := HB.trans (hd.mono HB.size)
            refine wp_region_lexS [] [6, 11] (Lab2 gl (ol + k * 4) S1 S2) (by kernel_rfl) (by decide +kernel) (HLAB.out _ HB) (fun _ => ?_)
            have hsz4 : x.heap.size + 1 ≤ w4.drew.heap.size := hsz
            generalize w4.drew = y at hs4 ht hm4 hq he own HB hsz4 ⊢
            clear hd hsz
            (go_wp2_with (first | (refine wpLexS_nil ?_) | (refine wpLexS_pure rfl (fun _ _ => ?_); go_simp; refine ⟨_, fun w9 hw9 => (by have s1 := hw9.1; have s2 := hw9.2; go_simp; rfl), ?_⟩) | (refine wpLexS_pure0 rfl (fun _ _ => ?_); go_simp; try go_bits) | (refine wpLexS_read rfl (fun _ _ => ?_); go_simp; try go_bits) | (refine wpLexS_loud rfl (fun KL hKL => ?_))))
            have hb : Below y.heap.size y (y.alloc (.cells #[.string S1, .string S2] 9)) := (by repeat (first | with_reducible exact Below.refl _ _ | with_reducible assumption | refine Below.drew ?_ | refine below_drewN ?_ | refine Below.alloc ?_ (by first | omega | (simp; done) | (simp; omega)) _ | refine below_setRow ?_ (by omega) _ | refine Below.setCell ?_ (by first | omega | (simp; done) | (simp; omega)) _))
            have hr : RowIs (y.alloc (.cells #[.string S1, .string S2] 9)) y.heap.size #[.string S1, .string S2] := RowIs.new _ _ _
            replace hs4 : Src _ (w2.heap.size + 1) key m' := RowIs.step hs4 hb
            replace ht : Src _ (w2.heap.size + 1 + 1) key m := RowIs.step ht hb
            replace hm4 := hm4.step hb; replace hq := hq.step hb; replace he := he.step hb; replace own := own.step hb
            replace HB := HB.trans (hb.mono HB.size)
            refine hKL _ _ (HLAB.out _ HB) (fun _ => ?_)
            clear hb
            (go_wp2_with (first | (refine wpLexS_nil ?_) | (refine wpLexS_pure rfl (fun _ _ => ?_); go_simp; refine ⟨_, fun w9 hw9 => (by have s1 := hw9.1; have s2 := hw9.2; go_simp; rfl), ?_⟩) | (refine wpLexS_pure0 rfl (fun _ _ => ?_); go_simp; try go_bits) | (refine wpLexS_read rfl (fun _ _ => ?_); go_simp; try go_bits) | (refine wpLexS_loud rfl (fun KL hKL => ?_))))
            refine (HN2.out w2.heap.size (w2.heap.size + 1 + 1) y.heap.size (100 * k) _ (by omega) (by omega) (by omega) (by omega) hq ht hr).mono ?_
            rintro e w5 ⟨v5, rfl, own5, ht5, hq5, hU⟩
            obtain ⟨A5, c5, rfl⟩ := own5.slice
            replace own := own.upd2 hU (by omega) (by omega)
            replace hs : Src w5 (w2.heap.size + 1) key m' := RowIs.upd2 hs4 hU (by omega) (by omega)
            replace he := he.upd2 hx2 hU
            have hm : MetB w5 g (100 * k + 8) := by obtain ⟨i, q0, q1, q2⟩ := hm4; exact ⟨i, q0, q1, RowIs.upd2 q2 hU (by omega) (by omega)⟩
            replace HB := hU.below HB (by omega) (by omega) HB.size
            have hka := own.ks hks
            have hkb := own5.ks hks
            have ht := ht5
            have hq := hq5
            clear hU hm4 hs4 hr own own5 ht5 hq5
            go_wp2_with fail
            refine hKL _ _ (HLAB.out _ HB) (fun _ => ?_)
            (go_wp2_with (first | (refine wpLexS_nil ?_) | (refine wpLexS_pure rfl (fun _ _ => ?_); go_simp; refine ⟨_, fun w9 hw9 => (by have s1 := hw9.1; have s2 := hw9.2; go_simp; rfl), ?_⟩) | (refine wpLexS_pure0 rfl (fun _ _ => ?_); go_simp; try go_bits) | (refine wpLexS_read rfl (fun _ _ => ?_); go_simp; try go_bits) | (refine wpLexS_loud rfl (fun KL hKL => ?_))))
            go_wp2_with fail
            obtain ⟨z, hz⟩ : ∃ z, z = w5 := ⟨_, rfl⟩
            rw [← hz] at hs ht hm hq he HB hka hkb ⊢
            clear hz
            refine wp_region_lexS [] [13, 17, 24, 28] (TwoSrc (w2.heap.size + 1) (w2.heap.size + 1 + 1) key m') (by kernel_rfl) (by decide +kernel) ⟨RowIs.drew hs, RowIs.drew ht⟩ (fun hS => ?_)
            have hd : Below z.heap.size z z.drew := (by repeat (first | with_reducible exact Below.refl _ _ | with_reducible assumption | refine Below.drew ?_ | refine below_drewN ?_ | refine Below.alloc ?_ (by first | omega | (simp; done) | (simp; omega)) _ | refine below_setRow ?_ (by omega) _ | refine Below.setCell ?_ (by first | omega | (simp; done) | (simp; omega)) _))
            replace hm := hm.step hd; replace hq := hq.step hd; replace he := he.step hd; replace hka := hka.step hd; replace hkb := hkb.step hd
            replace HB := HB.trans (hd.mono HB.size)
            clear hs ht hd
            generalize z.drew = x at hS hm hq he HB hka hkb ⊢
            (go_wp2_with (first | (refine wpLexS_nil ?_) | (refine wpLexS_pure rfl (fun _ _ => ?_); go_simp; refine ⟨_, fun w9 hw9 => (by have s1 := hw9.1.num hkey; have s2 := hw9.2.num hkey; have s3 := hw9.1.seed hkey; have s4 := hw9.2.seed hkey; go_simp; rfl), ?_⟩) | (refine wpLexS_pure0 rfl (fun _ _ => ?_); go_simp; try go_bits) | (refine wpLexS_read rfl (fun _ _ => ?_); go_simp; try go_bits) | (refine wpLexS_loud rfl (fun KL hKL => ?_))))
            refine (keys_same _ _ ks hks (by omega) _ hka hkb).mono ?_
            rintro e x1 ⟨rfl, hb⟩
            replace hS := hS.step hb
            replace hm := hm.step hb; replace hq := hq.step hb; replace he := he.step hb
            replace HB := HB.trans (hb.mono HB.size)
            clear hka hkb hb
            go_wp2_with fail
            refine hKL _ _ hS (fun _ => ?_)
            (go_wp2_with (first | (refine wpLexS_nil ?_) | (refine wpLexS_pure rfl (fun _ _ => ?_); go_simp; refine ⟨_, fun w9 hw9 => (by have s1 := hw9.1.num hkey; have s2 := hw9.2.num hkey; have s3 := hw9.1.seed hkey; have s4 := hw9.2.seed hkey; go_simp; rfl), ?_⟩) | (refine wpLexS_pure0 rfl (fun _ _ => ?_); go_simp; try go_bits) | (refine wpLexS_read rfl (fun _ _ => ?_); go_simp; try go_bits) | (refine wpLexS_loud rfl (fun KL hKL => ?_))))
            go_wp2_with fail
            exact ⟨⟨k + 1, m', by go_num, by omega, hS.1, hS.2, hm.mono (by omega), hq.mono (by omega), he, HB⟩, by simp [intOf]; omega⟩
          · have e2 : (d == 2) = false := by simpa using hd2
            by_cases hd3 : d = 3
            · subst hd3
              obtain ⟨cc, m', N1, N2⟩ := jump_both key hkey m nn
              have HN1 := Lib.hid N1; have HN2 := Lib.hid N2
              clear N1 N2 hS1 hS2 hl1 hl2
              go_wp2_with fail
              refine (HN1.out (w2.heap.size + 1) _ hs).mono ?_
              rintro e w4 ⟨rfl, hs4, hU⟩
              have hbz1 := HB.size
              have hgx := hm.lt
              replace ht : Src w4 (w2.heap.size + 1 + 1) key m := RowIs.upd ht hU (by omega)
              replace he : ShaEnv w4 := ⟨he.rounds.upd hU hx1.2.2.1, he.start.upd hU hx1.2.2.2⟩
              replace hq := hq.upd hU (by omega)
              replace hm := hm.upd hU (by omega)
              replace HB := hU.below HB (by omega) HB.size
              have g3 := (HB.cell (p := ⟨gl, ol + k * 4 + 3, none⟩) hgl1).trans t3
              clear hU hs f0 f1 f2 f3
              go_wp2_with fail
              refine (HN2.out (w2.heap.size + 1 + 1) _ ht).mono ?_
              rintro e w5 ⟨rfl, ht5, hU⟩
              have hbz2 := HB.size
              replace hs : Src w5 (w2.heap.size + 1) key m' := RowIs.upd hs4 hU (by omega)
              replace he : ShaEnv w5 := ⟨he.rounds.upd hU hx2.2.2.1, he.start.upd hU hx2.2.2.2⟩
              replace hq := hq.upd hU (by omega)
              replace hm := hm.upd hU (by omega)
              replace HB := hU.below HB (by omega) HB.size
              have ht := ht5
              have hka := KsL.nil w5
              have hkb := KsL.nil w5
              have hks : ∀ x ∈ ([] : List (List UInt8)), x.length = 32 := by simp
              clear hU hs4 ht5 g3
              go_wp2_with fail
              obtain ⟨z, hz⟩ : ∃ z, z = w5 := ⟨_, rfl⟩
              rw [← hz] at hs ht hm hq he HB hka hkb ⊢
              clear hz
              refine wp_region_lexS [] [13, 17, 24, 28] (TwoSrc (w2.heap.size + 1) (w2.heap.size + 1 + 1) key m') (by kernel_rfl) (by decide +kernel) ⟨RowIs.drew hs, RowIs.drew ht⟩ (fun hS => ?_)
              have hd : Below z.heap.size z z.drew := (by repeat (first | with_reducible exact Below.refl _ _ | with_reducible assumption | refine Below.drew ?_ | refine below_drewN ?_ | refine Below.alloc ?_ (by first | omega | (simp; done) | (simp; omega)) _ | refine below_setRow ?_ (by omega) _ | refine Below.setCell ?_ (by first | omega | (simp; done) | (simp; omega)) _))
              replace hm := hm.step hd; replace hq := hq.step hd; replace he := he.step hd; replace hka := hka.step hd; replace hkb := hkb.step hd
              replace HB := HB.trans (hd.mono HB.size)
              clear hs ht hd
              generalize z.drew = x at hS hm hq he HB hka hkb ⊢
              (go_wp2_with (first | (refine wpLexS_nil ?_) | (refine wpLexS_pure rfl (fun _ _ => ?_); go_simp; refine ⟨_, fun w9 hw9 => (by have s1 := hw9.1.num hkey; have s2 := hw9.2.num hkey; have s3 := hw9.1.seed hkey; have s4 := hw9.2.seed hkey; go_simp; rfl), ?_⟩) | (refine wpLexS_pure0 rfl (fun _ _ => ?_); go_simp; try go_bits) | (refine wpLexS_read rfl (fun _ _ => ?_); go_simp; try go_bits) | (refine wpLexS_loud rfl (fun KL hKL => ?_))))
              refine (keys_same _ _ [] hks (by simp) _ hka hkb).mono ?_
              rintro e x1 ⟨rfl, hb⟩
              replace hS := hS.step hb
              replace hm := hm.step hb; replace hq := hq.step hb; replace he := he.step hb
              replace HB := HB.trans (hb.mono HB.size)
              clear hka hkb hb
              go_wp2_with fail
              refine hKL _ _ hS (fun _ => ?_)
              (go_wp2_with (first | (refine wpLexS_nil ?_) | (refine wpLexS_pure rfl (fun _ _ => ?_); go_simp; refine ⟨_, fun w9 hw9 => (by have s1 := hw9.1.num hkey; have s2 := hw9.2.num hkey; have s3 := hw9.1.seed hkey; have s4 := hw9.2.seed hkey; go_simp; rfl), ?_⟩) | (refine wpLexS_pure0 rfl (fun _ _ => ?_); go_simp; try go_bits) | (refine wpLexS_read rfl (fun _ _ => ?_); go_simp; try go_bits) | (refine wpLexS_loud rfl (fun KL hKL => ?_))))
              go_wp2_with fail
              exact ⟨⟨k + 1, m', by go_num, by omega, hS.1, hS.2, hm.mono (by omega), hq.mono (by omega), he, HB⟩, by simp [intOf]; omega⟩
            · have e3 : (d == 3) = false := by simpa using hd3
              have hka := KsL.nil wr
              have hkb := KsL.nil wr
              have hks : ∀ x ∈ ([] : List (List UInt8)), x.length = 32 := by simp
              clear hS1 hS2 hl1 hl2
              go_wp2_with fail
              obtain ⟨z, hz⟩ : ∃ z, z = wr := ⟨_, rfl⟩
              rw [← hz] at hs ht hm hq he HB hka hkb ⊢
              clear hz
              refine wp_region_lexS [] [13, 17, 24, 28] (TwoSrc (w2.heap.size + 1) (w2.heap.size + 1 + 1) key m) (by kernel_rfl) (by decide +kernel) ⟨RowIs.drew hs, RowIs.drew ht⟩ (fun hS => ?_)
              have hd : Below z.heap.size z z.drew := (by repeat (first | with_reducible exact Below.refl _ _ | with_reducible assumption | refine Below.drew ?_ | refine below_drewN ?_ | refine Below.alloc ?_ (by first | omega | (simp; done) | (simp; omega)) _ | refine below_setRow ?_ (by omega) _ | refine Below.setCell ?_ (by first | omega | (simp; done) | (simp; omega)) _))
              replace hm := hm.step hd; replace hq := hq.step hd; replace he := he.step hd; replace hka := hka.step hd; replace hkb := hkb.step hd
              replace HB := HB.trans (hd.mono HB.size)
              clear hs ht hd
              generalize z.drew = x at hS hm hq he HB hka hkb ⊢
              (go_wp2_with (first | (refine wpLexS_nil ?_) | (refine wpLexS_pure rfl (fun _ _ => ?_); go_simp; refine ⟨_, fun w9 hw9 => (by have s1 := hw9.1.num hkey; have s2 := hw9.2.num hkey; have s3 := hw9.1.seed hkey; have s4 := hw9.2.seed hkey; go_simp; rfl), ?_⟩) | (refine wpLexS_pure0 rfl (fun _ _ => ?_); go_simp; try go_bits) | (refine wpLexS_read rfl (fun _ _ => ?_); go_simp; try go_bits) | (refine wpLexS_loud rfl (fun KL hKL => ?_))))
              refine (keys_same _ _ [] hks (by simp) _ hka hkb).mono ?_
              rintro e x1 ⟨rfl, hb⟩
              replace hS := hS.step hb
              replace hm := hm.step hb; replace hq := hq.step hb; replace he := he.step hb
              replace HB := HB.trans (hb.mono HB.size)
              clear hka hkb hb
              go_wp2_with fail
              refine hKL _ _ hS (fun _ => ?_)
              (go_wp2_with (first | (refine wpLexS_nil ?_) | (refine wpLexS_pure rfl (fun _ _ => ?_); go_simp; refine ⟨_, fun w9 hw9 => (by have s1 := hw9.1.num hkey; have s2 := hw9.2.num hkey; have s3 := hw9.1.seed hkey; have s4 := hw9.2.seed hkey; go_simp; rfl), ?_⟩) | (refine wpLexS_pure0 rfl (fun _ _ => ?_); go_simp; try go_bits) | (refine wpLexS_read rfl (fun _ _ => ?_); go_simp; try go_bits) | (refine wpLexS_loud rfl (fun KL hKL => ?_))))
              go_wp2_with fail
              exact ⟨⟨k + 1, m, by go_num, by omega, hS.1, hS.2, hm.mono (by omega), hq.mono (by omega), he, HB⟩, by simp [intOf]; omega⟩
      · have hd : (decide ((50 : Int) < l1) || decide ((50 : Int) < l2)) = true := by simp; omega
        clear hS1 hS2 hl1 hl2 h50
        go_wp2_with fail
        all_goals (go_ret; exact ⟨rfl, HB⟩)
    · have ek : k = len := by omega
      subst ek
      go_wp2_with fail
      go_ret
      exact ⟨rfl, HB⟩
set_option maxRecDepth 100000 in
theorem walk_DrawsPlays (key : List UInt8) (n : UInt64) (A : Option Addr) (c : Nat) (xs : List DOp) (w : World) (he : ShaEnv w) (hl : key.length = 32) (hr : RdDOps w w.heap.size A xs) :
    Calls Tryd.prog 15 #[.agg (u8s key), .int .u64 (n64 n), .slice A xs.length c] w (TrueRes' w) := by
  by_cases h : xs.length ≤ 30
  · exact drawsplays_any key hl n A c xs w he hr h
  · obtain ⟨l, hl'⟩ : ∃ l, xs.length = l := ⟨_, rfl⟩
    rw [hl'] at h ⊢
    have h1 : (30 : Int) < l := by omega
    clear hr hl' h
    have hq0 : Below w.heap.size w (w.alloc (.cells (u8s key) 33)) := (by repeat (first | with_reducible exact Below.refl _ _ | with_reducible assumption | refine Below.drew ?_ | refine below_drewN ?_ | refine Below.alloc ?_ (by first | omega | (simp; done) | (simp; omega)) _ | refine below_setRow ?_ (by omega) _ | refine Below.setCell ?_ (by first | omega | (simp; done) | (simp; omega)) _))
    go_enter Tryd.func15, Tryd.ntmps15
    go_wp2_with (go_at_call 49; refine (awake13_any _ (he.step hq0)).mono ?_; rintro e w1 ⟨rfl, hb1⟩)
    all_goals (go_ret; exact ⟨rfl, hq0.trans (Below.mono (by assumption) hq0.size)⟩)
end Go.Proofs.YtopmdbmnlflpgaaDoor
