/- MacExpands: the document's expansion, and the walk of the statement's function. -/
import Derived.Test.YtopmdbmnlflpgaaDoorExpW
namespace Go.Proofs.YtopmdbmnlflpgaaDoor
open Go.RowKit
attribute [local go_sem ↓] xloadK
attribute [local go_sem] loadK0
theorem apart_new {T : TypeId} {w w3 : World} {b0 B : Nat} {u v : Value} {l m : List UInt8} (hu : Own8 T w b0 u l) (hw : w.heap.size ≤ B) (hv : Own8 T w3 B v m) : Apart u v := by
  cases hub : u.ownBlock with
  | none => exact .inl hub
  | some k =>
    cases hvb : v.ownBlock with
    | none => exact .inr (.inl hvb)
    | some j =>
      refine .inr (.inr ?_)
      have h1 := hu.lt hub
      have h2 := (World.ownsRow.lt hv j hvb).1
      rw [hub, hvb]
      intro e
      injection e with e
      omega
def ExpdRef (r : Nat) (M : Int) (l : List UInt8) (w : World) (e : Ending) (w' : World) : Prop := ∃ v, e = .returned (.tuple #[v, .int .i64 0]) ∧ Bs w' v l ∧ LogB w' r M ∧ Upd r w w'
set_option maxRecDepth 100000 in
set_option maxHeartbeats 3200000 in
theorem refexpand_goes (r : Nat) (key : List UInt8) (hkey : key.length = 32) (vi : Value) (info : List UInt8) (hinfo : info.length ≤ 200) (n : Nat) (h8 : n ≤ 8160) (N : Int) (hNM : N ≤ 800000) (w : World) (hm : LogB w r N) (hi : Bs w vi info) :
    Calls Tryd.prog 31 #[.pointer (some ⟨r, 0, none⟩), .agg (u8s key), vi, .int .i64 n] w (ExpdRef r (N + 765) (expB key info n) w) := by
  obtain ⟨A, c, rfl, -, -, -⟩ := id hi
  obtain ⟨ni, hni⟩ : ∃ ni, info.length = ni := ⟨_, rfl⟩
  have HNI := Lib.hid hni
  rw [hni] at hi hinfo ⊢
  clear hni
  have i1 : ¬ (n : Int) < 0 := by omega
  have i2 : ¬ (8160 : Int) < n := by omega
  have hrl := hm.lt
  have hno := hm.no8
  have hq0 : Below w.heap.size w (w.alloc (.cells (u8s key) 33)) := (by repeat (first | with_reducible exact Below.refl _ _ | with_reducible assumption | refine Below.drew ?_ | refine below_drewN ?_ | refine Below.alloc ?_ (by first | omega | (simp; done) | (simp; omega)) _ | refine below_setRow ?_ (by omega) _ | refine Below.setCell ?_ (by first | omega | (simp; done) | (simp; omega)) _))
  have R0 : RowIs (w.alloc (.cells (u8s key) 33)) w.heap.size (u8s key) := RowIs.new _ _ _
  have hks : (u8s key).size = 32 := by rw [u8s_size]; exact hkey
  go_enter Tryd.func31, Tryd.ntmps31
  go_wp2_with fail
  go_loopw [10, 11, 12] (fun o v i wr => ∃ k : Nat, i = .int .i64 ((k + 1 : Nat) : Int) ∧ k ≤ 255 ∧ Own8 5 wr (w.heap.size + 1) o (outK key info k) ∧ Bs wr v (tK key info k) ∧ RowIs wr w.heap.size (u8s key) ∧ LogB wr r (N + 3 * k) ∧ Upd r w wr) (fun o _ _ _ => n - lenOf' o)
  case atStart => exact ⟨0, rfl, by omega, Own8.nil _ _ _, Bs.nil _, R0, (hm.step hq0).mono (by omega), Upd.of hq0⟩
  case round =>
    clear R0 hq0
    obtain ⟨k, rfl, hk, own, hv, hR, hL, hU⟩ := hrel
    have hlen := outK_length key info k
    obtain ⟨Ao, co, rfl⟩ := own.slice
    rw [hlen] at own ⊢
    have hi1 := hi.upd hU hno
    by_cases hlt : 32 * k < n
    · have hlt' : ((32 * k : Nat) : Int) < n := by omega
      obtain ⟨bt, hbt⟩ : ∃ b, b = UInt8.ofNat (k + 1) := ⟨_, rfl⟩
      have hcv : IntKind.u8.wrap ((k : Int) + 1) = n8 bt := by rw [hbt, wrap_u8, n8_def, UInt8.toNat_ofNat']; omega
      obtain ⟨B1, hB1⟩ : ∃ b, b = tK key info k ++ info := ⟨_, rfl⟩
      obtain ⟨B2, hB2⟩ : ∃ b, b = B1 ++ [bt] := ⟨_, rfl⟩
      obtain ⟨T, hT⟩ : ∃ T, T = tK key info (k + 1) := ⟨_, rfl⟩
      have hTl : T.length = 32 := by rw [hT, tK_length]
      have hTm : macB key B2 = T := by rw [hT, hB2, hB1, hbt, tK]
      have hle := tK_le key info k
      obtain ⟨Av, cv, rfl, -, -, -⟩ := id hv
      obtain ⟨m, hm'⟩ : ∃ m, (tK key info k).length = m := ⟨_, rfl⟩
      have HM := Lib.hid hm'
      have HB1 := Lib.hid hB1.symm
      have HB1l := Lib.hid (show B1.length = m + ni by rw [hB1, List.length_append, hm', HNI.out])
      have HB2 := Lib.hid hB2.symm
      have HB2l := Lib.hid (show B2.length = m + ni + 1 by rw [hB2, List.length_append, HB1l.out]; rfl)
      have HT := Lib.hid hT
      have HTM := Lib.hid hTm
      have HLT := Lib.hid hlt
      rw [hm'] at hv hle ⊢
      clear hbt hm' hB1 hB2 hT hTm hlt hlen
      have hrs := hR.lt
      have hus := hU.size
      have own0 := Own8.empty (T := 5) (g := wr.heap.size) wr (base := wr.heap.size) (by simp) (by simp)
      have hqe : Below wr.heap.size wr (wr.alloc (.cells #[] 5)) := (by repeat (first | with_reducible exact Below.refl _ _ | with_reducible assumption | refine Below.drew ?_ | refine below_drewN ?_ | refine Below.alloc ?_ (by first | omega | (simp; done) | (simp; omega)) _ | refine below_setRow ?_ (by omega) _ | refine Below.setCell ?_ (by first | omega | (simp; done) | (simp; omega)) _))
      have hv1 := hv.step hqe
      have hi2 := hi1.step hqe
      go_wp2_with (at_builtin; first
        | (refine wpList_appendBs Tryd.underlying27 Tryd.info8 rfl (.tmp 26) (.tmp 27) rfl wr.heap.size rfl own0 rfl hv1 (List.nil_append _) HM.out (by omega) (by simp) ?_; intro A1 c1 w1 own1 bel1; have hb1 := hqe.trans bel1; have hs1 := hb1.size; have hi3 := hi1.step hb1; clear own0 hv1 hi2 bel1 hqe)
        | (refine wpList_appendBs Tryd.underlying27 Tryd.info8 rfl (.tmp 28) (.tmp 29) rfl wr.heap.size rfl own1 rfl hi3 HB1.out HB1l.out (by omega) (by omega) ?_; intro A2 c2 w2 own2 bel2; have hb2 := hb1.trans bel2; have hR2 := hR.step hb2; have hR2h := hR2.has; have hR2r := hR2.row; have hR2l := hR2.lt; clear own1 hi3 bel2 hb1))
      have hb2z := hb2.size
      have hL2 := hL.step hb2
      have own3 := own.step hb2
      refine (bytes_any key hkey w2).mono ?_
      rintro e w3 ⟨Ak, ck, rfl, ownk, hb3⟩
      clear hR2h hR2r hR2l hR2
      have hap := apart_new own2 (Nat.le_refl _) ownk
      have hone := Bs.one (w := w3.alloc (.cells #[.int .u8 (n8 bt)] 5)) (g := w3.heap.size) (i := n8 bt) bt (by go_simp) rfl (by simp)
      have hq3 : Below w3.heap.size w3 (w3.alloc (.cells #[.int .u8 (n8 bt)] 5)) := (by repeat (first | with_reducible exact Below.refl _ _ | with_reducible assumption | refine Below.drew ?_ | refine below_drewN ?_ | refine Below.alloc ?_ (by first | omega | (simp; done) | (simp; omega)) _ | refine below_setRow ?_ (by omega) _ | refine Below.setCell ?_ (by first | omega | (simp; done) | (simp; omega)) _))
      have hb3q : Below w2.heap.size w2 (w3.alloc (.cells #[.int .u8 (n8 bt)] 5)) := hb3.trans (hq3.mono hb3.size)
      replace own2 := own2.step hb3q
      replace ownk := ownk.step hq3
      have hs3 := hb3q.size
      rw [hkey] at ownk hap ⊢
      go_wp2_with (at_builtin; refine wpList_appendBs' Tryd.underlying27 Tryd.info8 rfl (.tmp 34) (.tmp 37) rfl wr.heap.size rfl own2 rfl hone HB2.out HB2l.out (by omega) (by omega) ?_; intro A4 c4 w4 own4 bel4 gr4)
      have hb14 : Below wr.heap.size wr w4 := hb2.trans ((hb3q.mono (by omega)).trans bel4)
      replace ownk := ownk.kept gr4 hap.other
      have hs4 := hb14.size
      have hU4 := hU.thenB (hb14.mono (by omega))
      refine (refmac_any r (N + 3 * k) _ _ key B2 w4 (hL.below hb14 (by omega)) (ownk.bs (by omega)) (own4.bs (by rw [HB2l.out]; omega)) (by omega) (by rw [HB2l.out]; omega) (by omega)).mono ?_
      rintro e w5 ⟨rfl, hL5, hU5⟩
      rw [HTM.out]
      replace own := (own.below hb14 (Nat.le_refl _)).keep (w' := w5) (fun q hq _ => hU5.block q (by omega) (by omega))
      replace hR := (hR.below hb14 hrs).upd hU5 (by omega)
      replace hU4 := hU4.trans hU5
      have hs5 := hU5.size
      clear ownk own4 own2 own3 hap hone hq3 hb3q bel4 gr4 hb14 hb2 hb3 hL hL2 hU hU5 hi1
      go_wp2_with fail
      refine (bytes_any T hTl w5).mono ?_
      rintro e w6 ⟨A6, c6, rfl, own6, hb6⟩
      have hap6 := apart_new own (Nat.le_refl _) own6
      replace own := own.step hb6
      replace hR := hR.step hb6
      replace hL5 := hL5.step hb6
      replace hU4 := hU4.then hb6
      have hs6 := hb6.size
      have ht6 := own6.bs (by omega)
      rw [hTl] at own6 ht6 hap6 ⊢
      have hLL : outK key info k ++ T = outK key info (k + 1) := by rw [outK, ← HT.out]
      have hNN : (outK key info (k + 1)).length = 32 * (k + 1) := outK_length _ _ _
      clear hb6
      go_wp2_with (at_builtin; refine wpList_appendBs' Tryd.underlying27 Tryd.info8 rfl (.tmp 41) (.tmp 42) rfl (w.heap.size + 1) rfl own rfl ht6 hLL hNN (by omega) (by omega) ?_; intro A7 c7 w7 own7 bel7 gr7)
      replace own6 := own6.kept gr7 hap6.other
      have hlt := HLT.out
      refine ⟨⟨k + 1, by go_num, by omega, own7, ?_, hR.below bel7 (by omega), (hL5.below bel7 (by omega)).mono (by omega), hU4.thenB (bel7.mono (by omega))⟩, by simp [lenOf']; omega⟩
      rw [← HT.out]
      exact own6.bs (by omega)
    · have hge : ¬ ((32 * k : Nat) : Int) < n := by omega
      have hle := own.len.2
      rw [hlen] at hle
      have hbs := own.bs (by rw [hlen]; omega)
      have htk := hbs.take n (by omega)
      rw [expB_of key info n k (by omega)] at htk
      have hcl : ¬ (co : Int) < n := by omega
      have HTK := Lib.hid htk
      clear htk hbs own
      go_wp2_with fail
      refine bodyPost_ret (results_tmp2 rfl _ _ _) rfl ?_
      exact ⟨_, rfl, HTK.out, hL.mono (by omega), hU⟩
def ExpdC (g : Nat) (M : Int) (l : List UInt8) (c : Int) (w : World) (e : Ending) (w' : World) : Prop := ∃ v, e = .returned (.tuple #[v, .int .i64 c]) ∧ Bs w' v l ∧ MetB w' g M ∧ Upd g w w'
def ExpdRC (r : Nat) (M : Int) (l : List UInt8) (c : Int) (w : World) (e : Ending) (w' : World) : Prop := ∃ v, e = .returned (.tuple #[v, .int .i64 c]) ∧ Bs w' v l ∧ LogB w' r M ∧ Upd r w w'
set_option maxRecDepth 100000 in
theorem refexpand_none (p : Value) (key : List UInt8) (hkey : key.length = 32) (A : Option Addr) (ni c : Nat) (n : Int) (h : n < 0 ∨ 8160 < n) (w : World) :
    Calls Tryd.prog 31 #[p, .agg (u8s key), .slice A ni c, .int .i64 n] w (ExpdNone 1 w) := by
  by_cases h0 : n < 0
  · go_enter Tryd.func31, Tryd.ntmps31
    go_wp2_with fail
    refine bodyPost_ret (results_tmp2 rfl _ _ _) rfl ?_
    exact ⟨rfl, (by repeat (first | with_reducible exact Below.refl _ _ | with_reducible assumption | refine Below.drew ?_ | refine below_drewN ?_ | refine Below.alloc ?_ (by first | omega | (simp; done) | (simp; omega)) _ | refine below_setRow ?_ (by omega) _ | refine Below.setCell ?_ (by first | omega | (simp; done) | (simp; omega)) _))⟩
  · have h1 : 8160 < n := by omega
    go_enter Tryd.func31, Tryd.ntmps31
    go_wp2_with fail
    refine bodyPost_ret (results_tmp2 rfl _ _ _) rfl ?_
    exact ⟨rfl, (by repeat (first | with_reducible exact Below.refl _ _ | with_reducible assumption | refine Below.drew ?_ | refine below_drewN ?_ | refine Below.alloc ?_ (by first | omega | (simp; done) | (simp; omega)) _ | refine below_setRow ?_ (by omega) _ | refine Below.setCell ?_ (by first | omega | (simp; done) | (simp; omega)) _))⟩
theorem expands_both (key : List UInt8) (hkey : key.length = 32) (info : List UInt8) (hinfo : info.length ≤ 200) (n : Int) (hn : n ≤ 400 ∨ 8160 < n) : ∃ l c,
    (∀ (g : Nat) (vi : Value) (w : World), MetB w g 0 → ShaEnv w → Bs w vi info → Calls Tryd.prog 30 #[.pointer (some ⟨g, 0, none⟩), .agg (u8s key), vi, .int .i64 n] w (ExpdC g 1020 l c w)) ∧
    (∀ (r : Nat) (vi : Value) (w : World), LogB w r 0 → Bs w vi info → Calls Tryd.prog 31 #[.pointer (some ⟨r, 0, none⟩), .agg (u8s key), vi, .int .i64 n] w (ExpdRC r 765 l c w)) := by
  by_cases h : n < 0 ∨ 8160 < n
  · refine ⟨[], 1, fun g vi w hm he hi => ?_, fun r vi w hm hi => ?_⟩
    · obtain ⟨A, c, rfl, -, -, -⟩ := id hi
      refine (expand_none g key hkey A info.length c n h w).mono ?_
      rintro e w' ⟨rfl, hb⟩
      exact ⟨_, rfl, Bs.nil _, (hm.step hb).mono (by omega), Upd.of hb⟩
    · obtain ⟨A, c, rfl, -, -, -⟩ := id hi
      refine (refexpand_none _ key hkey A info.length c n h w).mono ?_
      rintro e w' ⟨rfl, hb⟩
      exact ⟨_, rfl, Bs.nil _, (hm.step hb).mono (by omega), Upd.of hb⟩
  · obtain ⟨k, rfl⟩ : ∃ k : Nat, n = (k : Int) := ⟨n.toNat, by omega⟩
    refine ⟨expB key info k, 0, fun g vi w hm he hi => ?_, fun r vi w hm hi => refexpand_goes r key hkey vi info hinfo k (by omega) 0 (by omega) w hm hi⟩
    by_cases hz : k = 0
    · subst hz
      obtain ⟨A, c, rfl, -, -, -⟩ := id hi
      refine (expand_zero g key hkey A info.length c w).mono ?_
      rintro e w' ⟨rfl, hb⟩
      have hl : expB key info 0 = [] := List.eq_nil_of_length_eq_zero (expB_length key info 0)
      rw [hl]
      exact ⟨_, rfl, Bs.nil _, (hm.step hb).mono (by omega), Upd.of hb⟩
    · exact expand_goes g key hkey vi info hinfo k (by omega) (by omega) 0 (by omega) (by omega) w hm he hi
attribute [local go_sem ↓] xlogBuild
attribute [local go_sem] logBuild
set_option maxRecDepth 100000 in
set_option maxHeartbeats 3200000 in
theorem macexpands_any (key : List UInt8) (hkey : key.length = 32) (vi : Value) (info : List UInt8) (n : Int) (w : World) (he : ShaEnv w) (hi : Bs w vi info) (h1 : info.length ≤ 200) (hn : n ≤ 400 ∨ 8160 < n) :
    Calls Tryd.prog 7 #[.agg (u8s key), vi, .int .i64 n] w (TrueRes' w) := by
  obtain ⟨L, c, E1, E2⟩ := expands_both key hkey info h1 n hn
  have HE1 := Lib.hid E1; have HE2 := Lib.hid E2
  clear E1 E2
  obtain ⟨A1, c1, rfl, -, -, -⟩ := id hi
  obtain ⟨n1, hn1⟩ : ∃ n, info.length = n := ⟨_, rfl⟩
  rw [hn1] at hi h1 ⊢
  clear hn1
  have i1 : ¬ (200 : Int) < n1 := by omega
  have i2 : (decide ((400 : Int) < n) && decide (n ≤ 8160)) = false := by simp; omega
  have i3 : ((decide ((400 : Int) < n)) = true) → decide (n ≤ 8160) = false := by simp; omega
  go_enter Tryd.func7, Tryd.ntmps7
  go_wp2_with fail
  have hq0 : Below w.heap.size w (w.alloc (.cells (u8s key) 33)) := (by repeat (first | with_reducible exact Below.refl _ _ | with_reducible assumption | refine Below.drew ?_ | refine below_drewN ?_ | refine Below.alloc ?_ (by first | omega | (simp; done) | (simp; omega)) _ | refine below_setRow ?_ (by omega) _ | refine Below.setCell ?_ (by first | omega | (simp; done) | (simp; omega)) _))
  have R0 : RowIs (w.alloc (.cells (u8s key) 33)) w.heap.size (u8s key) := RowIs.new _ _ _
  replace he := he.step hq0; replace hi := hi.step hq0
  refine (awake3_any _ he).mono ?_
  rintro e w1 ⟨rfl, HB⟩
  have hr0 := R0.lt
  replace he := he.step HB; replace hi := hi.step HB; replace R0 := R0.step HB
  replace HB := hq0.trans (HB.mono hq0.size)
  clear hq0
  go_wp2_with fail
  all_goals (
    refine (new_any false _).mono ?_
    rintro e w2 ⟨g, rfl, hm0, hg, hb2⟩
    have hr1 := R0.lt
    have hg0 : w.heap.size ≤ g := by have := HB.size; omega
    have hg1 : w.heap.size ≠ g := by omega
    replace he := he.step hb2; replace hi := hi.step hb2; replace R0 := R0.step hb2
    replace HB := HB.trans (hb2.mono HB.size)
    have hm := MetB.new hm0
    have hgl := RowIs.lt hm0
    clear hm0 hb2
    have hq : Below w2.heap.size w2 (w2.alloc (.cells (logC 0) 44)) := (by repeat (first | with_reducible exact Below.refl _ _ | with_reducible assumption | refine Below.drew ?_ | refine below_drewN ?_ | refine Below.alloc ?_ (by first | omega | (simp; done) | (simp; omega)) _ | refine below_setRow ?_ (by omega) _ | refine Below.setCell ?_ (by first | omega | (simp; done) | (simp; omega)) _))
    have hl := LogB.new w2 44
    replace he := he.step hq; replace hi := hi.step hq; replace hm := hm.step hq; replace R0 := R0.step hq
    replace HB := HB.trans (hq.mono HB.size)
    have K1 := loadK R0 hkey
    have hbs := HB.size
    have hrl2 := R0.lt
    clear hq
    go_wp2_with fail
    refine (HE1.out g _ _ hm he hi).mono ?_
    rintro e w3 ⟨va, rfl, ha, hm3, hu3⟩
    replace HB := hu3.below HB hg0 HB.size
    replace he := hm.env he hu3
    replace hi := hi.upd hu3 hm.no8
    replace hl := hl.upd hu3 (by omega)
    replace R0 := R0.upd hu3 hg1
    clear hm hu3 K1
    have K2 := loadK R0 hkey
    go_wp2_with fail
    refine (HE2.out _ _ _ hl hi).mono ?_
    rintro e w4 ⟨vb, rfl, hb, hl4, hu4⟩
    replace HB := hu4.below HB (by omega) HB.size
    replace ha := ha.upd hu4 hl.no8
    clear hl hu4 he hi hm3 K2 R0
    obtain ⟨Aa, ca, rfl, -, -, -⟩ := id ha
    obtain ⟨Ab, cb, rfl, -, -, -⟩ := id hb
    go_wp2_with fail
    refine (refSame_bs ha hb).mono ?_
    rintro e w5 ⟨rfl, hb5⟩
    replace HB := HB.trans (hb5.mono HB.size)
    go_wp2_with fail
    go_ret
    exact ⟨by simp, HB⟩)
theorem walk_MacExpands (key : List UInt8) (A1 : Option Addr) (c1 : Nat) (info : List UInt8) (n : Int) (w : World) (he : ShaEnv w) (hl : key.length = 32) (hc1 : info.length ≤ c1) (hr1 : Rd8 w w.heap.size A1 info) (lo2 : -9223372036854775808 ≤ n) (hi2 : n ≤ 9223372036854775807) :
    Calls Tryd.prog 7 #[.agg (u8s key), .slice A1 info.length c1, .int .i64 n] w (TrueRes' w) := by
  by_cases h : info.length ≤ 200 ∧ (n ≤ 400 ∨ 8160 < n)
  · exact macexpands_any key hl _ info n w he (Bs.of hc1 (by omega) hr1) h.1 h.2
  · obtain ⟨n1, hn1⟩ : ∃ n, info.length = n := ⟨_, rfl⟩
    rw [hn1] at h ⊢
    clear hr1 hc1 hn1
    have hq0 : Below w.heap.size w (w.alloc (.cells (u8s key) 33)) := (by repeat (first | with_reducible exact Below.refl _ _ | with_reducible assumption | refine Below.drew ?_ | refine below_drewN ?_ | refine Below.alloc ?_ (by first | omega | (simp; done) | (simp; omega)) _ | refine below_setRow ?_ (by omega) _ | refine Below.setCell ?_ (by first | omega | (simp; done) | (simp; omega)) _))
    by_cases h2 : 200 < n1
    · have h2' : (200 : Int) < n1 := by omega
      go_enter Tryd.func7, Tryd.ntmps7
      go_wp2_with (go_at_call 29; refine (awake3_any _ (he.step hq0)).mono ?_; rintro e w1 ⟨rfl, hb1⟩)
      all_goals (go_ret; exact ⟨rfl, hq0.trans (Below.mono (by assumption) hq0.size)⟩)
    · have h3 : (400 : Int) < n := by omega
      have h4 : n ≤ (8160 : Int) := by omega
      have h2' : ¬ (200 : Int) < n1 := by omega
      go_enter Tryd.func7, Tryd.ntmps7
      go_wp2_with (go_at_call 29; refine (awake3_any _ (he.step hq0)).mono ?_; rintro e w1 ⟨rfl, hb1⟩)
      all_goals (go_ret; exact ⟨rfl, hq0.trans (Below.mono (by assumption) hq0.size)⟩)
end Go.Proofs.YtopmdbmnlflpgaaDoor
