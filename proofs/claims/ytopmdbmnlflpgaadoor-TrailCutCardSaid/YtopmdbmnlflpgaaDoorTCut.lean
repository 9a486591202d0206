/- TrailCut: the walk of the statement's function. Printed by gen_tcut.py. -/
import Derived.Test.YtopmdbmnlflpgaaDoorTCutQ
namespace Go.Proofs.YtopmdbmnlflpgaaDoor
open Go.RowKit
attribute [local go_sem ↓] xtrBuild xtrLoad xtrStore
attribute [local go_sem] trZ trC_size trC_one trEq pastBuild newTr
def TcS (b gl ol : Nat) (T : Array Value) (v : Value) (w : World) : Prop := RowIs w b T ∧ w.cell? ⟨gl, ol, none⟩ = some v
theorem key_self' (h : List UInt8) (hh : h.length = 32) (w : World) : (Op.equalIn 10000 33 (.agg (u8s h)) (.agg (u8s h))).run Tryd.prog w = .ok true w := by
  obtain ⟨i, hi⟩ := Option.isSome_iff_exists.1 (show (Tryd.prog.info? 5).isSome = true by kernel_rfl)
  rw [run_equalIn_array w 9999 (u8s h) (u8s h) Tryd.underlying33 hi, show Tryd.prog.cellsOf 5 = 1 by kernel_rfl, run_eqItems8 Tryd.underlying5 9998 h h w _ (fun j hj => by rw [List.mem_range] at hj; omega)]
  exact congrArg (fun b => Result.ok b w) (List.all_eq_true.2 fun i _ => by simp)
/-- a past whose trails lie below top -/
def PastIn (w : World) (p base top : Nat) (ts : List Tr) : Prop := ∃ v, RowIs w p #[v] ∧ OwnT w base v ts ∧ ∀ k, v.ownBlock = some k → k < top
theorem PastAt.inn {w : World} {p base : Nat} {ts : List Tr} (h : PastAt w p base ts) : PastIn w p base w.heap.size ts := by
  obtain ⟨v, q1, q2⟩ := h
  exact ⟨v, q1, q2, fun k hk => (q2.lt hk).2⟩
theorem PastIn.step {w w' : World} {p base top : Nat} {ts : List Tr} (h : PastIn w p base top ts) (hb : Below w.heap.size w w') : PastIn w' p base top ts := by
  obtain ⟨v, q1, q2, q3⟩ := h
  exact ⟨v, q1.step hb, q2.step hb, q3⟩
theorem PastIn.upd {w w' : World} {p base top g : Nat} {ts : List Tr} (h : PastIn w p base top ts) (hu : Upd g w w') (hg : g < base) (hp : p ≠ g) : PastIn w' p base top ts := by
  obtain ⟨v, q1, q2, q3⟩ := h
  exact ⟨v, q1.upd hu hp, q2.upd hu hg, q3⟩
theorem PastIn.setRow {w : World} {p base top r : Nat} {ts : List Tr} (h : PastIn w p base top ts) (hr : top ≤ r) (hp : p ≠ r) (cs : Array Value) : PastAt (w.setRow r cs) p base ts := by
  obtain ⟨v, q1, q2, q3⟩ := h
  refine ⟨v, q1.set_ne hp _, ?_⟩
  rcases q2 with q2 | ⟨g, o, c, cur, e, hg, hh, rr⟩
  · exact .inl q2
  · have : g < top := q3 g (by rw [e]; rfl)
    refine .inr ⟨g, o, c, cur, e, hg, ?_, rr⟩
    rw [setRow_other w r g _ (by omega)]; exact hh
def OneR (b : Nat) (T : Array Value) (w : World) : Prop := RowIs w b T
set_option maxRecDepth 100000 in
set_option maxHeartbeats 6400000 in
theorem trailcut_any (A : Option Addr) (c : Nat) (ls : List (List UInt8)) (t : Nat) (w : World) (he : ShaEnv w) (hc : ls.length ≤ c) (hr : RdLs w w.heap.size A ls) (hl : ls.length ≤ 10) (ht : t ≤ ls.length) :
    Calls Tryd.prog 14 #[.slice A ls.length c, .int .i64 t] w (TrueRes' w) := by
  obtain ⟨S, hS⟩ : ∃ S, S = startB [] [] := ⟨_, rfl⟩
  have hSl : S.length = 32 := by rw [hS, startB_length]
  have cs := fun g (w : World) N h1 h2 (hN : N ≤ 900000) => tstart_any g N _ _ [] [] w h1 h2 (Bs.nil w) (Bs.nil w) (by simp) (by simp) hN
  unfold TrRes at cs
  rw [← hS] at cs
  have CS := Lib.hid cs
  have HR := Lib.hid hr
  obtain ⟨n, hn⟩ : ∃ n, n = ls.length := ⟨_, rfl⟩
  have HN := Lib.hid hn
  rw [← hn] at hc hl ht ⊢
  have i1 : ¬ (10 : Int) < n := by omega
  have i2 : ¬ (t : Int) < 0 := by omega
  have i3 : ¬ (n : Int) < t := by omega
  have hr1 := he.rounds.lt
  have hr2 := he.start.lt
  clear cs hr hn hS
  go_enter Tryd.func14, Tryd.ntmps14
  go_wp2_with fail
  refine (awake14_any w he).mono ?_
  rintro e w1 ⟨rfl, HB⟩
  replace he := he.step HB
  go_wp2_with fail
  refine (new_any false _).mono ?_
  rintro e w2 ⟨g, rfl, hm0, hg, hb2⟩
  have hz1 := HB.size
  have hm := MetB.new14 hm0
  replace he := he.step hb2
  replace HB := HB.trans (hb2.mono HB.size)
  clear hm0 hb2
  go_wp2_with fail
  refine (CS.out g w2 0 hm he (by omega)).mono ?_
  rintro e w3 ⟨rfl, hm3, hu⟩
  have hgl2 := hm.lt
  replace he := hm.env he hu
  replace HB := hu.below HB (by omega) HB.size
  have hz2 := hu.size
  clear hm hu
  have hq : Below w3.heap.size w3 ((w3.alloc (.cells (trC S 0) 64)).alloc (.cells #[.slice none 0 0] 75)) := (by repeat (first | with_reducible exact Below.refl _ _ | with_reducible assumption | refine Below.drew ?_ | refine below_drewN ?_ | refine Below.alloc ?_ (by first | omega | (simp; done) | (simp; omega)) _ | refine below_setRow ?_ (by omega) _ | refine Below.setCell ?_ (by first | omega | (simp; done) | (simp; omega)) _))
  have RT : RowIs ((w3.alloc (.cells (trC S 0) 64)).alloc (.cells #[.slice none 0 0] 75)) w3.heap.size (trC S 0) := (RowIs.new _ _ _).alloc _
  have RP : PastAt ((w3.alloc (.cells (trC S 0) 64)).alloc (.cells #[.slice none 0 0] 75)) (w3.heap.size + 1) (w3.heap.size + 2) [] := ⟨_, RowIs.new' (by simp), OwnT.nil _ _⟩
  have hm := hm3.step hq
  replace he := he.step hq
  replace HB := HB.trans (hq.mono HB.size)
  have hz4 : w3.heap.size + 2 ≤ ((w3.alloc (.cells (trC S 0) 64)).alloc (.cells #[.slice none 0 0] 75)).heap.size := by simp
  have hw3 : w.heap.size ≤ w3.heap.size := by omega
  have L1 := trload RT hSl
  clear hq hm3
  go_wp2_with fail
  refine (add_first (w3.heap.size + 1) (w3.heap.size + 2) (by omega) S hSl 0 _ RP hz4).mono ?_
  rintro e w5 ⟨rfl, RP, hu⟩
  replace HB := hu.below HB (by omega) (by omega)
  replace RT := RT.updB hu (by omega) (by omega)
  have hm : MetB w5 g (0 + 1) := by obtain ⟨i, q0, q1, q2⟩ := hm; exact ⟨i, q0, q1, RowIs.updB q2 hu (by omega) (by omega)⟩
  replace he : ShaEnv w5 := ⟨he.rounds.updB hu (by omega) (by omega), he.start.updB hu (by omega) (by omega)⟩
  have hz5 : w3.heap.size + 2 ≤ w5.heap.size := Nat.le_trans hz4 hu.size
  clear hu L1 hz4
  go_wp2_with fail
  go_loopw [9, 10] (fun i _ wr => ∃ k : Nat, i = .int .i64 k ∧ k ≤ n ∧ (∀ j, j < k → (nthL ls j).length ≤ 300) ∧ RowIs wr w3.heap.size (trC (trK S 0 ls k).1 (trK S 0 ls k).2) ∧ PastAt wr (w3.heap.size + 1) (w3.heap.size + 2) (tsK S ls k) ∧ MetB wr g (1 + k) ∧ ShaEnv wr ∧ Below w.heap.size w wr ∧ w3.heap.size + 2 ≤ wr.heap.size) (fun i _ _ => n - (intOf i).toNat)
  case atStart => exact ⟨0, rfl, by omega, fun j hj => absurd hj (by omega), RT, RP, hm.mono (by omega), he, HB, hz5⟩
  case round =>
    clear RT RP hm he HB hz5
    obtain ⟨k, rfl, hk, hle, RT, RP, hm, he, HB, hz⟩ := hrel
    have HLE := Lib.hid hle
    clear hle
    have hlk := trK_len S hSl 0 ls k
    obtain ⟨h, hh⟩ : ∃ h, h = (trK S 0 ls k).1 := ⟨_, rfl⟩
    obtain ⟨m, hm'⟩ : ∃ m, m = (trK S 0 ls k).2 := ⟨_, rfl⟩
    rw [← hh, ← hm'] at RT
    rw [← hh] at hlk
    have HH := Lib.hid hh; have HM := Lib.hid hm'
    clear hh hm'
    by_cases hlt : k < n
    · have hlt' : k < ls.length := by rw [← HN.out]; exact hlt
      obtain ⟨gl, ol, rfl, hgl1, hat⟩ := HR.out (by omega)
      obtain ⟨Ai, ci, t0, hci, hrd⟩ := hat k hlt'
      obtain ⟨b, hb⟩ : ∃ b, b = nthL ls k := ⟨_, rfl⟩
      obtain ⟨q, hq⟩ : ∃ q, q = b.length := ⟨_, rfl⟩
      rw [← hb] at t0 hci hrd
      rw [← hq] at t0 hci
      have f0 := (HB.cell (p := ⟨gl, ol + k, none⟩) hgl1).trans t0
      have hk0 : (0 : Int) ≤ (k : Int) := by omega
      have hk1 : (k : Int) < n := by omega
      have HBb := Lib.hid hb; have HQ := Lib.hid hq
      clear hat
      by_cases h300 : q ≤ 300
      · have j1 : ¬ (300 : Int) < q := by omega
        have hbs0 : Bs w (.slice Ai q ci) b := Bs.of' (w := w) hq.symm hci (by omega) hrd
        have hql : b.length ≤ 300 := by omega
        have hnx : nextB h m b = (trK S 0 ls (k + 1)).1 := by rw [trK, HH.out, HM.out, hb]
        have hnx2 : m + 1 = (trK S 0 ls (k + 1)).2 := by rw [trK, HM.out]
        have cc := fun (W : World) h1 h2 h3 => tnext_any g (1 + k) h hlk m (.slice Ai q ci) b W h1 h2 h3 (by omega) (by omega)
        unfold TrRes at cc
        have hlk2 := trK_len S hSl 0 ls (k + 1)
        obtain ⟨h2, hh2⟩ : ∃ h, h = (trK S 0 ls (k + 1)).1 := ⟨_, rfl⟩
        obtain ⟨m2, hm2⟩ : ∃ m, m = (trK S 0 ls (k + 1)).2 := ⟨_, rfl⟩
        rw [hnx, hnx2, ← hh2, ← hm2] at cc
        rw [← hh2] at hlk2
        have HH2 := Lib.hid hh2; have HM2 := Lib.hid hm2
        have hbase : (h2, m2) = trK S 0 ls (k + 1) := by rw [hh2, hm2]
        have hlast : m2 = (nthT (tsK S ls k) ((tsK S ls k).length - 1)).2 + 1 := by rw [tsK_len, Nat.add_sub_cancel, tsK_nth S ls k k (Nat.le_refl _), ← HM.out, hm2, ← hnx2]
        have CC := Lib.hid cc; have HBA := Lib.hid hbase; have HLA := Lib.hid hlast
        clear hb hq hnx hnx2 hh2 hm2 hbase hlast cc
        go_wp2_with fail
        refine wp_region_lexT [] [0, 5] (TcS w3.heap.size gl (ol + k) (trC h m) (.slice Ai q ci)) (by kernel_rfl) (by decide +kernel) ⟨RT.drew, f0⟩ (fun hS => ?_)
        have hd : Below wr.heap.size wr wr.drew := (by repeat (first | with_reducible exact Below.refl _ _ | with_reducible assumption | refine Below.drew ?_ | refine below_drewN ?_ | refine Below.alloc ?_ (by first | omega | (simp; done) | (simp; omega)) _ | refine below_setRow ?_ (by omega) _ | refine Below.setCell ?_ (by first | omega | (simp; done) | (simp; omega)) _))
        replace RT := RT.step hd
        replace RP := RP.step hd
        replace hm := hm.step hd; replace he := he.step hd
        replace HB := HB.trans (hd.mono HB.size)
        replace hz : w3.heap.size + 2 ≤ wr.drew.heap.size := hz
        have hbs := hbs0.step HB
        generalize wr.drew = x at RT RP hm he HB hz hbs hS ⊢
        clear hd f0
        (go_wp2_with (first | (refine wpLexT_pure rfl (fun _ _ => ?_); go_simp; refine ⟨_, fun w9 hw9 => (by have s1 := trload hw9.1 hlk; have s2 := hw9.2; go_simp; rfl), ?_⟩) | (refine wpLexT_pure0 rfl (fun _ _ => ?_); go_simp; try go_bits) | (refine wpLexT_read rfl (fun _ _ => ?_); go_simp; try go_bits) | (refine wpLexT_loud rfl (fun KL hKL => ?_))))
        refine (CC.out x hm he hbs).mono ?_
        rintro e x1 ⟨rfl, hm1, hu⟩
        replace RT := RT.upd hu (by omega)
        replace RP := RP.upd hu (by omega) (by omega)
        replace he := hm.env he hu
        replace HB := hu.below HB (by omega) HB.size
        replace hz := Nat.le_trans hz hu.size
        have f1 := (HB.cell (p := ⟨gl, ol + k, none⟩) hgl1).trans t0
        clear hm hu hbs hS
        go_wp2_with fail
        refine hKL _ _ ⟨RT, f1⟩ (fun _ => ?_)
        have hst := trStore x1 w3.heap.size (trC h2 m2) (by rw [RT.has, trC_size _ hlk]) (trC_size h2 hlk2 _) (trC_one h2 _)
        refine wpLexT_last (fun KL hKL => ?_)
        have RT' := RT.set (trC h2 m2)
        have L2 := trload RT' hlk2
        have hqs : Below w3.heap.size x1 (x1.setRow w3.heap.size (trC h2 m2)) := below_setRow (Below.refl _ _) (Nat.le_refl _) _
        have RP' : PastAt (x1.setRow w3.heap.size (trC h2 m2)) (w3.heap.size + 1) (w3.heap.size + 2) (tsK S ls k) := by
          obtain ⟨v, q1, q2⟩ := RP
          exact ⟨v, q1.set_ne (by omega) _, q2.keep fun k hk _ => setRow_other x1 w3.heap.size k _ (by omega)⟩
        replace he : ShaEnv (x1.setRow w3.heap.size (trC h2 m2)) := ⟨he.rounds.set_ne (by omega) _, he.start.set_ne (by omega) _⟩
        replace HB : Below w.heap.size w (x1.setRow w3.heap.size (trC h2 m2)) := below_setRow HB (by omega) _
        have hm2' : MetB (x1.setRow w3.heap.size (trC h2 m2)) g (1 + k + 1) := hm1.setRow_ne (by omega) _
        have hz2' : w3.heap.size + 2 ≤ (x1.setRow w3.heap.size (trC h2 m2)).heap.size := by simp [World.setRow]; omega
        clear RT RP hm1 hz f1 hqs
        go_wp2_with fail
        refine (add_ok (w3.heap.size + 1) (w3.heap.size + 2) (by omega) (tsK S ls k) h2 hlk2 m2 _ RP' (tsK_ok S hSl ls k) hz2' (by rw [tsK_len]; omega) (by rw [tsK_len]; omega) HLA.out).mono ?_
        rintro e x2 ⟨rfl, RP, hu⟩
        rw [HBA.out, ← tsK_succ] at RP
        replace RT := RT'.updB hu (by omega) (by omega)
        replace HB := hu.below HB (by omega) (by omega)
        have hm : MetB x2 g (1 + k + 1) := by obtain ⟨i, q0, q1, q2⟩ := hm2'; exact ⟨i, q0, q1, RowIs.updB q2 hu (by omega) (by omega)⟩
        replace he : ShaEnv x2 := ⟨he.rounds.updB hu (by omega) (by omega), he.start.updB hu (by omega) (by omega)⟩
        have hz5 : w3.heap.size + 2 ≤ x2.heap.size := Nat.le_trans hz2' hu.size
        clear hu L2 RT' RP' hm2' hz2' hst
        go_wp2_with fail
        rw [HH2.out, HM2.out] at RT
        exact ⟨⟨k + 1, by go_num, by omega, fun j hj => by
          rcases Nat.lt_or_ge j k with hjk | hjk
          · exact HLE.out j hjk
          · obtain rfl : j = k := by omega
            rw [← HBb.out]; exact hql, RT, RP, hm.mono (by omega), he, HB, hz5⟩, by simp [intOf]; omega⟩
      · have j1 : (300 : Int) < q := by omega
        clear hb hq hrd
        go_wp2_with fail
        go_ret
        exact ⟨rfl, HB⟩
    · have ek : k = n := by omega
      subst ek
      have hne : ¬ ((k : Int) < k) := by omega
      have hkn : k = ls.length := HN.out
      have hct : t ≤ c := by omega
      have hbl : BsLx g w (.slice A ls.length c) ls := RdLs.bs HR.out (by omega) (by omega) (fun i hi => by have := HLE.out i (by omega); omega) (by omega)
      rw [← HN.out] at hbl
      have hb1 := hbl.take t ht
      have hb2 := hbl.drop t ht
      have hlk0 := trK_len S hSl 0 ls t
      obtain ⟨h1, hh1⟩ : ∃ h, h = (trK S 0 ls t).1 := ⟨_, rfl⟩
      obtain ⟨m1, hm1⟩ : ∃ m, m = (trK S 0 ls t).2 := ⟨_, rfl⟩
      have hl1 : (ls.take t).length = t := by simp; omega
      have hl2 : (ls.drop t).length = k - t := by rw [List.length_drop, ← HN.out]
      have ca := fun (W : World) q1 q2 q3 => tall_any g (1 + k + 1) S hSl 0 (.slice A t c) (ls.take t) W q1 q2 q3 (by omega) (fun i hi => by
        rw [hl1] at hi
        have e : nthL (ls.take t) i = nthL ls i := by rw [nthL_def, nthL_def, List.getD_eq_getElem?_getD, List.getD_eq_getElem?_getD, List.getElem?_take, if_pos hi]
        rw [e]; have := HLE.out i (by omega); omega) (by omega)
      rw [hl1, trK_take S 0 ls t t (Nat.le_refl _), ← hh1, ← hm1] at ca
      rw [← hh1] at hlk0
      have cb := fun (W : World) q1 q2 q3 => tall_any g (1 + k + 1 + t) h1 hlk0 m1 (.slice (subA A c t) (k - t) (c - t)) (ls.drop t) W q1 q2 q3 (by omega) (fun i hi => by
        rw [hl2] at hi
        have e : nthL (ls.drop t) i = nthL ls (t + i) := by rw [nthL_def, nthL_def, List.getD_eq_getElem?_getD, List.getD_eq_getElem?_getD, List.getElem?_drop]
        rw [e]; have := HLE.out (t + i) (by omega); omega) (by omega)
      have ctail := trK_drop S 0 ls t (k - t)
      rw [← hh1, ← hm1, show t + (k - t) = k by omega] at ctail
      rw [hl2, ctail, ← HH.out, ← HM.out] at cb
      unfold TrRes at ca cb
      have fa := fun (W W' : World) e (q : FindRes (tsK S ls k) (UInt32.ofNat t) W e W') => find_at S ls k t ht hl q
      have fb := fun (W W' : World) e (q : FindRes (tsK S ls k) (UInt32.ofNat k) W e W') => find_at S ls k k (Nat.le_refl _) hl q
      rw [← hh1] at fa
      rw [← HH.out] at fb
      have hwt : (n32 (UInt32.ofNat t) : Int) = t := by rw [n32_def, UInt32.toNat_ofNat']; omega
      have hwk : (n32 (UInt32.ofNat k) : Int) = k := by rw [n32_def, UInt32.toNat_ofNat']; omega
      have CA := Lib.hid ca; have CB := Lib.hid cb; have FA := Lib.hid fa; have FB := Lib.hid fb; have HW1 := Lib.hid hwt; have HW2 := Lib.hid hwk
      have HBL := Lib.hid hb1; have HBD := Lib.hid hb2
      have HL1 := Lib.hid hl1; have HL2 := Lib.hid hl2
      clear hkn ca cb fa fb hwt hwk hh1 hm1 hl1 hl2 ctail hbl hb1 hb2
      go_wp2_with fail
      refine (CS.out g wr (1 + k) hm he (by omega)).mono ?_
      rintro e x ⟨rfl, hm', hu⟩
      replace RT := RT.upd hu (by omega)
      replace RP := RP.upd hu (by omega) (by omega)
      replace he := hm.env he hu
      replace HB := hu.below HB (by omega) HB.size
      replace hz := Nat.le_trans hz hu.size
      have hm := hm'
      clear hu hm'
      go_wp2_with fail
      have hb : Below x.heap.size x (x.alloc (.cells (trC S 0) 64)).drew := (by repeat (first | with_reducible exact Below.refl _ _ | with_reducible assumption | refine Below.drew ?_ | refine below_drewN ?_ | refine Below.alloc ?_ (by first | omega | (simp; done) | (simp; omega)) _ | refine below_setRow ?_ (by omega) _ | refine Below.setCell ?_ (by first | omega | (simp; done) | (simp; omega)) _))
      have R1 : RowIs (x.alloc (.cells (trC S 0) 64)).drew x.heap.size (trC S 0) := (RowIs.new _ _ _).drew
      have hzr := hz
      have qRT := RT.lt
      replace RT := RT.step hb
      replace RP := RP.step hb
      replace hm := hm.step hb
      replace he := he.step hb
      replace HB := HB.trans (hb.mono HB.size)
      replace hz := Nat.le_trans hz hb.size
      refine wp_region_lexF [] [0] 6 _ (OneR x.heap.size (trC S 0)) rfl (by kernel_rfl) (by decide +kernel) R1 (fun _ => ?_)
      clear hb
      generalize (x.alloc (.cells (trC S 0) 64)).drew = y at RT R1 RP hm he HB hz ⊢
      obtain ⟨r1, hrn⟩ : ∃ r, r = x.heap.size := ⟨_, rfl⟩
      rw [← hrn] at R1 hzr qRT ⊢
      clear hrn
      (go_wp2_with (first | (refine wpLexF_here rfl ?_) | (refine wpLexF_pure (by decide) rfl (fun _ _ => ?_); go_simp; refine ⟨_, fun w9 hw9 => (by have s1 := trload (show RowIs _ _ (trC S 0) from hw9) hSl; go_simp; rfl), ?_⟩) | (refine wpLexF_pure0 (by decide) rfl (fun _ _ => ?_); go_simp; try go_bits)))
      refine wpLexF_loud (by decide) rfl (fun KL hKL => ?_) (fun KL hKL => ?_)
      · go_wp2_with fail
        refine (CA.out y hm he (HBL.out.step HB)).mono ?_
        rintro e ya ⟨rfl, hm', hu⟩
        replace RT := RT.upd hu (by omega)
        replace R1 := R1.upd hu (by omega)
        replace RP := RP.upd hu (by omega) (by omega)
        replace he := hm.env he hu
        replace HB := hu.below HB (by omega) HB.size
        replace hz := Nat.le_trans hz hu.size
        have hm := hm'
        clear hu hm'
        go_wp2_with fail
        refine hKL _ _ R1 (fun _ => ?_)
        (go_wp2_with (first | (refine wpLexF_here rfl ?_) | (refine wpLexF_pure (by decide) rfl (fun _ _ => ?_); go_simp; refine ⟨_, fun w9 hw9 => (by have s1 := trload (show RowIs _ _ (trC S 0) from hw9) hSl; go_simp; rfl), ?_⟩) | (refine wpLexF_pure0 (by decide) rfl (fun _ _ => ?_); go_simp; try go_bits)))
        (go_wp2_with (first | (refine wpLexD_skip rfl ?_) | (refine wpLexD_pure (by decide) rfl (fun _ _ => ?_); go_simp; refine ⟨_, fun w9 hw9 => (by have s1 := trload (show RowIs _ _ (trC S 0) from hw9) hSl; go_simp; rfl), ?_⟩) | (refine wpLexD_pure0 (by decide) rfl (fun _ _ => ?_); go_simp; try go_bits) | (refine wpLexD_loud (by decide) rfl (fun KL hKL => ?_)) | (refine wpLexS_nil ?_) | (refine wpLexS_pure rfl (fun _ _ => ?_); go_simp; refine ⟨_, fun w9 hw9 => (by have s1 := trload (show RowIs _ _ (trC S 0) from hw9) hSl; go_simp; rfl), ?_⟩) | (refine wpLexS_pure0 rfl (fun _ _ => ?_); go_simp; try go_bits) | (refine wpLexS_read rfl (fun _ _ => ?_); go_simp; try go_bits) | (refine wpLexS_loud rfl (fun KL hKL => ?_))))
        have hb : Below ya.heap.size ya (ya.alloc (.cells (trC (zeros 32) 0) 64)) := (by repeat (first | with_reducible exact Below.refl _ _ | with_reducible assumption | refine Below.drew ?_ | refine below_drewN ?_ | refine Below.alloc ?_ (by first | omega | (simp; done) | (simp; omega)) _ | refine below_setRow ?_ (by omega) _ | refine Below.setCell ?_ (by first | omega | (simp; done) | (simp; omega)) _))
        have qRT := RT.lt
        have qR1 := R1.lt
        have hzr := hz
        replace RP := RP.inn
        replace RT := RT.step hb
        replace R1 := R1.step hb
        replace RP := RP.step hb
        replace hm := hm.step hb
        replace he := he.step hb
        replace HB := HB.trans (hb.mono HB.size)
        replace hz := Nat.le_trans hz hb.size
        have R2 : RowIs (ya.alloc (.cells (trC (zeros 32) 0) 64)) ya.heap.size (trC (zeros 32) 0) := RowIs.new _ _ _
        refine hKL _ _ R1 (fun _ => ?_)
        clear hb
        generalize ya.alloc (.cells (trC (zeros 32) 0) 64) = yb at RT R1 R2 RP hm he HB hz ⊢
        obtain ⟨r2, hrn⟩ : ∃ r, r = ya.heap.size := ⟨_, rfl⟩
        rw [← hrn] at R2 RP hzr qRT qR1 ⊢
        clear hrn
        have hst := trStore yb r2 (trC h1 m1) (by rw [R2.has, trC_size _ (zeros_length 32)]) (trC_size h1 hlk0 _) (trC_one h1 _)
        (go_wp2_with (first | (refine wpLexD_skip rfl ?_) | (refine wpLexD_pure (by decide) rfl (fun _ _ => ?_); go_simp; refine ⟨_, fun w9 hw9 => (by have s1 := trload (show RowIs _ _ (trC S 0) from hw9) hSl; go_simp; rfl), ?_⟩) | (refine wpLexD_pure0 (by decide) rfl (fun _ _ => ?_); go_simp; try go_bits) | (refine wpLexD_loud (by decide) rfl (fun KL hKL => ?_)) | (refine wpLexS_nil ?_) | (refine wpLexS_pure rfl (fun _ _ => ?_); go_simp; refine ⟨_, fun w9 hw9 => (by have s1 := trload (show RowIs _ _ (trC S 0) from hw9) hSl; go_simp; rfl), ?_⟩) | (refine wpLexS_pure0 rfl (fun _ _ => ?_); go_simp; try go_bits) | (refine wpLexS_read rfl (fun _ _ => ?_); go_simp; try go_bits) | (refine wpLexS_loud rfl (fun KL hKL => ?_))))
        refine hKL _ _ (R1.set_ne (by omega) _) (fun _ => ?_)
        replace RT := RT.set_ne (show w3.heap.size ≠ r2 by omega) (trC h1 m1)
        replace R1 := R1.set_ne (show r1 ≠ r2 by omega) (trC h1 m1)
        replace R2 := R2.set (trC h1 m1)
        replace RP : PastAt (yb.setRow r2 (trC h1 m1)) (w3.heap.size + 1) (w3.heap.size + 2) (tsK S ls k) := RP.setRow (Nat.le_refl _) (by omega) _
        replace hm := hm.setRow_ne (show g ≠ r2 by omega) (trC h1 m1)
        replace he : ShaEnv (yb.setRow r2 (trC h1 m1)) := ⟨he.rounds.set_ne (by omega) _, he.start.set_ne (by omega) _⟩
        replace HB : Below w.heap.size w (yb.setRow r2 (trC h1 m1)) := below_setRow HB (by omega) _
        replace hz : w3.heap.size + 2 ≤ (yb.setRow r2 (trC h1 m1)).heap.size := by simpa [World.setRow] using hz
        clear hst
        generalize yb.setRow r2 (trC h1 m1) = yc at RT R1 R2 RP hm he HB hz ⊢
        go_wp2_with (refine wpLexS_nil ?_)
        have hfrom : ∀ w, (Instr.sliceAt 42 (.slice A k c) (some (.int .i64 t)) none none).run Tryd.prog w = .ok (.slice (subA A c t) (k - t) (c - t)) w := run_from Tryd.underlying42 (by kernel_rfl) A k c t ht
        have hb : Below yc.heap.size yc yc.drew := (by repeat (first | with_reducible exact Below.refl _ _ | with_reducible assumption | refine Below.drew ?_ | refine below_drewN ?_ | refine Below.alloc ?_ (by first | omega | (simp; done) | (simp; omega)) _ | refine below_setRow ?_ (by omega) _ | refine Below.setCell ?_ (by first | omega | (simp; done) | (simp; omega)) _))
        replace RT := RT.step hb
        replace R2 := R2.step hb
        replace RP := RP.step hb
        replace hm := hm.step hb
        replace he := he.step hb
        replace HB := HB.trans (hb.mono HB.size)
        replace hz := Nat.le_trans hz hb.size
        refine wp_region_lexF [] [0] 6 _ (OneR r2 (trC h1 m1)) rfl (by kernel_rfl) (by decide +kernel) R2 (fun _ => ?_)
        clear hb R1
        generalize yc.drew = z at RT R2 RP hm he HB hz ⊢
        (go_wp2_with (first | (refine wpLexF_here rfl ?_) | (refine wpLexF_pure (by decide) rfl (fun _ _ => ?_); go_simp; refine ⟨_, fun w9 hw9 => (by have s1 := trload (show RowIs _ _ (trC h1 m1) from hw9) hlk0; go_simp; rfl), ?_⟩) | (refine wpLexF_pure0 (by decide) rfl (fun _ _ => ?_); go_simp; try go_bits)))
        refine wpLexF_loud (by decide) rfl (fun KL hKL => ?_) (fun KL hKL => ?_)
        · go_wp2_with fail
          refine (CB.out z hm he (HBD.out.step HB)).mono ?_
          rintro e za ⟨rfl, hm', hu⟩
          replace RT := RT.upd hu (by omega)
          replace R2 := R2.upd hu (by omega)
          replace RP := RP.upd hu (by omega) (by omega)
          replace he := hm.env he hu
          replace HB := hu.below HB (by omega) HB.size
          replace hz := Nat.le_trans hz hu.size
          have hm := hm'
          clear hu hm'
          go_wp2_with fail
          refine hKL _ _ R2 (fun _ => ?_)
          (go_wp2_with (first | (refine wpLexF_here rfl ?_) | (refine wpLexF_pure (by decide) rfl (fun _ _ => ?_); go_simp; refine ⟨_, fun w9 hw9 => (by have s1 := trload (show RowIs _ _ (trC h1 m1) from hw9) hlk0; go_simp; rfl), ?_⟩) | (refine wpLexF_pure0 (by decide) rfl (fun _ _ => ?_); go_simp; try go_bits)))
          (go_wp2_with (first | (refine wpLexD_skip rfl ?_) | (refine wpLexD_pure (by decide) rfl (fun _ _ => ?_); go_simp; refine ⟨_, fun w9 hw9 => (by have s1 := trload (show RowIs _ _ (trC h1 m1) from hw9) hlk0; go_simp; rfl), ?_⟩) | (refine wpLexD_pure0 (by decide) rfl (fun _ _ => ?_); go_simp; try go_bits) | (refine wpLexD_loud (by decide) rfl (fun KL hKL => ?_)) | (refine wpLexS_nil ?_) | (refine wpLexS_pure rfl (fun _ _ => ?_); go_simp; refine ⟨_, fun w9 hw9 => (by have s1 := trload (show RowIs _ _ (trC h1 m1) from hw9) hlk0; go_simp; rfl), ?_⟩) | (refine wpLexS_pure0 rfl (fun _ _ => ?_); go_simp; try go_bits) | (refine wpLexS_read rfl (fun _ _ => ?_); go_simp; try go_bits) | (refine wpLexS_loud rfl (fun KL hKL => ?_))))
          have hb : Below za.heap.size za (za.alloc (.cells (trC (zeros 32) 0) 64)) := (by repeat (first | with_reducible exact Below.refl _ _ | with_reducible assumption | refine Below.drew ?_ | refine below_drewN ?_ | refine Below.alloc ?_ (by first | omega | (simp; done) | (simp; omega)) _ | refine below_setRow ?_ (by omega) _ | refine Below.setCell ?_ (by first | omega | (simp; done) | (simp; omega)) _))
          have qRT := RT.lt
          have qR2 := R2.lt
          have hzr := hz
          replace RP := RP.inn
          replace RT := RT.step hb
          replace R2 := R2.step hb
          replace RP := RP.step hb
          replace hm := hm.step hb
          replace he := he.step hb
          replace HB := HB.trans (hb.mono HB.size)
          replace hz := Nat.le_trans hz hb.size
          have R3 : RowIs (za.alloc (.cells (trC (zeros 32) 0) 64)) za.heap.size (trC (zeros 32) 0) := RowIs.new _ _ _
          refine hKL _ _ R2 (fun _ => ?_)
          clear hb
          generalize za.alloc (.cells (trC (zeros 32) 0) 64) = zb at RT R2 R3 RP hm he HB hz ⊢
          obtain ⟨r3, hrn⟩ : ∃ r, r = za.heap.size := ⟨_, rfl⟩
          rw [← hrn] at R3 RP hzr qRT qR2 ⊢
          clear hrn
          have hst := trStore zb r3 (trC h m) (by rw [R3.has, trC_size _ (zeros_length 32)]) (trC_size h hlk _) (trC_one h _)
          (go_wp2_with (first | (refine wpLexD_skip rfl ?_) | (refine wpLexD_pure (by decide) rfl (fun _ _ => ?_); go_simp; refine ⟨_, fun w9 hw9 => (by have s1 := trload (show RowIs _ _ (trC h1 m1) from hw9) hlk0; go_simp; rfl), ?_⟩) | (refine wpLexD_pure0 (by decide) rfl (fun _ _ => ?_); go_simp; try go_bits) | (refine wpLexD_loud (by decide) rfl (fun KL hKL => ?_)) | (refine wpLexS_nil ?_) | (refine wpLexS_pure rfl (fun _ _ => ?_); go_simp; refine ⟨_, fun w9 hw9 => (by have s1 := trload (show RowIs _ _ (trC h1 m1) from hw9) hlk0; go_simp; rfl), ?_⟩) | (refine wpLexS_pure0 rfl (fun _ _ => ?_); go_simp; try go_bits) | (refine wpLexS_read rfl (fun _ _ => ?_); go_simp; try go_bits) | (refine wpLexS_loud rfl (fun KL hKL => ?_))))
          refine hKL _ _ (R2.set_ne (by omega) _) (fun _ => ?_)
          replace RT := RT.set_ne (show w3.heap.size ≠ r3 by omega) (trC h m)
          replace R2 := R2.set_ne (show r2 ≠ r3 by omega) (trC h m)
          replace R3 := R3.set (trC h m)
          replace RP : PastAt (zb.setRow r3 (trC h m)) (w3.heap.size + 1) (w3.heap.size + 2) (tsK S ls k) := RP.setRow (Nat.le_refl _) (by omega) _
          replace hm := hm.setRow_ne (show g ≠ r3 by omega) (trC h m)
          replace he : ShaEnv (zb.setRow r3 (trC h m)) := ⟨he.rounds.set_ne (by omega) _, he.start.set_ne (by omega) _⟩
          replace HB : Below w.heap.size w (zb.setRow r3 (trC h m)) := below_setRow HB (by omega) _
          replace hz : w3.heap.size + 2 ≤ (zb.setRow r3 (trC h m)).heap.size := by simpa [World.setRow] using hz
          clear hst
          generalize zb.setRow r3 (trC h m) = zc at RT R2 R3 RP hm he HB hz ⊢
          go_wp2_with (refine wpLexS_nil ?_)
          clear hfrom he hm
          go_wp2_with fail
          have ff := find_any (w3.heap.size + 1) (w3.heap.size + 2) (tsK S ls k) (tsK_ok S hSl ls k) (UInt32.ofNat t) _ RP (by rw [tsK_len]; omega)
          rw [HW1.out] at ff
          refine ff.mono ?_
          intro e u hf
          obtain ⟨rfl, hb⟩ := FA.out _ _ _ hf
          clear hf ff
          have hbq : Below zc.heap.size zc (u.alloc (.cells (u8s h1) 33)) := hb.alloc hb.size _
          have RK1 : RowIs (u.alloc (.cells (u8s h1) 33)) u.heap.size (u8s h1) := RowIs.new _ _ _
          replace RT := RT.step hbq; replace R2 := R2.step hbq; replace R3 := R3.step hbq; replace RP := RP.step hbq
          replace HB := HB.trans (hbq.mono HB.size)
          clear hb hbq
          go_wp2_with fail
          have ff := find_any (w3.heap.size + 1) (w3.heap.size + 2) (tsK S ls k) (tsK_ok S hSl ls k) (UInt32.ofNat k) _ RP (by rw [tsK_len]; omega)
          rw [HW2.out] at ff
          refine ff.mono ?_
          intro e v hf
          obtain ⟨rfl, hb⟩ := FB.out _ _ _ hf
          clear hf RP ff
          have hbq : Below (u.alloc (.cells (u8s h1) 33)).heap.size (u.alloc (.cells (u8s h1) 33)) (v.alloc (.cells (u8s h) 33)) := hb.alloc hb.size _
          have RK2 : RowIs (v.alloc (.cells (u8s h) 33)) v.heap.size (u8s h) := RowIs.new _ _ _
          replace RT := RT.step hbq; replace R2 := R2.step hbq; replace R3 := R3.step hbq; replace RK1 := RK1.step hbq
          replace HB := HB.trans (hbq.mono HB.size)
          clear hb hbq
          have L1 := trload RT hlk
          have L2 := trload R3 hlk
          have L3 := kload14 RK1 hlk0
          have L4 := kload14 RK2 hlk
          have L5 := thead_row R2 hlk0
          have L6 := thead_row R3 hlk
          have L7 := trEq h hlk m
          have L8 := key_self' h1 hlk0
          have L9 := key_self' h hlk
          clear RT R2 R3 RK1 RK2
          go_wp2_with fail
          go_ret
          exact ⟨rfl, HB⟩
        · go_wp2_with fail
          have hb : Below z.heap.size z (z.alloc (.cells (trC (zeros 32) 0) 64)) := (by repeat (first | with_reducible exact Below.refl _ _ | with_reducible assumption | refine Below.drew ?_ | refine below_drewN ?_ | refine Below.alloc ?_ (by first | omega | (simp; done) | (simp; omega)) _ | refine below_setRow ?_ (by omega) _ | refine Below.setCell ?_ (by first | omega | (simp; done) | (simp; omega)) _))
          have qRT := RT.lt
          have qR2 := R2.lt
          have hzr := hz
          replace RP := RP.inn
          replace RT := RT.step hb
          replace R2 := R2.step hb
          replace RP := RP.step hb
          replace hm := hm.step hb
          replace he := he.step hb
          replace HB := HB.trans (hb.mono HB.size)
          replace hz := Nat.le_trans hz hb.size
          have R3 : RowIs (z.alloc (.cells (trC (zeros 32) 0) 64)) z.heap.size (trC (zeros 32) 0) := RowIs.new _ _ _
          refine hKL _ _ R2 (fun _ => ?_)
          clear hb
          generalize z.alloc (.cells (trC (zeros 32) 0) 64) = za at RT R2 R3 RP hm he HB hz ⊢
          obtain ⟨r3, hrn⟩ : ∃ r, r = z.heap.size := ⟨_, rfl⟩
          rw [← hrn] at R3 RP hzr qRT qR2 ⊢
          clear hrn
          (go_wp2_with (first | (refine wpLexD_skip rfl ?_) | (refine wpLexD_pure (by decide) rfl (fun _ _ => ?_); go_simp; refine ⟨_, fun w9 hw9 => (by have s1 := trload (show RowIs _ _ (trC h1 m1) from hw9) hlk0; go_simp; rfl), ?_⟩) | (refine wpLexD_pure0 (by decide) rfl (fun _ _ => ?_); go_simp; try go_bits) | (refine wpLexD_loud (by decide) rfl (fun KL hKL => ?_)) | (refine wpLexS_nil ?_) | (refine wpLexS_pure rfl (fun _ _ => ?_); go_simp; refine ⟨_, fun w9 hw9 => (by have s1 := trload (show RowIs _ _ (trC h1 m1) from hw9) hlk0; go_simp; rfl), ?_⟩) | (refine wpLexS_pure0 rfl (fun _ _ => ?_); go_simp; try go_bits) | (refine wpLexS_read rfl (fun _ _ => ?_); go_simp; try go_bits) | (refine wpLexS_loud rfl (fun KL hKL => ?_))))
          refine (CB.out za hm he (HBD.out.step HB)).mono ?_
          rintro e zb ⟨rfl, hm', hu⟩
          replace RT := RT.upd hu (by omega)
          replace R2 := R2.upd hu (by omega)
          replace R3 := R3.upd hu (by omega)
          replace RP := RP.upd hu (by omega) (by omega)
          replace he := hm.env he hu
          replace HB := hu.below HB (by omega) HB.size
          replace hz := Nat.le_trans hz hu.size
          have hm := hm'
          clear hu hm'
          go_wp2_with fail
          refine hKL _ _ R2 (fun _ => ?_)
          have hst := trStore zb r3 (trC h m) (by rw [R3.has, trC_size _ (zeros_length 32)]) (trC_size h hlk _) (trC_one h _)
          (go_wp2_with (first | (refine wpLexD_skip rfl ?_) | (refine wpLexD_pure (by decide) rfl (fun _ _ => ?_); go_simp; refine ⟨_, fun w9 hw9 => (by have s1 := trload (show RowIs _ _ (trC h1 m1) from hw9) hlk0; go_simp; rfl), ?_⟩) | (refine wpLexD_pure0 (by decide) rfl (fun _ _ => ?_); go_simp; try go_bits) | (refine wpLexD_loud (by decide) rfl (fun KL hKL => ?_)) | (refine wpLexS_nil ?_) | (refine wpLexS_pure rfl (fun _ _ => ?_); go_simp; refine ⟨_, fun w9 hw9 => (by have s1 := trload (show RowIs _ _ (trC h1 m1) from hw9) hlk0; go_simp; rfl), ?_⟩) | (refine wpLexS_pure0 rfl (fun _ _ => ?_); go_simp; try go_bits) | (refine wpLexS_read rfl (fun _ _ => ?_); go_simp; try go_bits) | (refine wpLexS_loud rfl (fun KL hKL => ?_))))
          refine hKL _ _ (R2.set_ne (by omega) _) (fun _ => ?_)
          replace RT := RT.set_ne (show w3.heap.size ≠ r3 by omega) (trC h m)
          replace R2 := R2.set_ne (show r2 ≠ r3 by omega) (trC h m)
          replace R3 := R3.set (trC h m)
          replace RP : PastAt (zb.setRow r3 (trC h m)) (w3.heap.size + 1) (w3.heap.size + 2) (tsK S ls k) := RP.setRow (Nat.le_refl _) (by omega) _
          replace hm := hm.setRow_ne (show g ≠ r3 by omega) (trC h m)
          replace he : ShaEnv (zb.setRow r3 (trC h m)) := ⟨he.rounds.set_ne (by omega) _, he.start.set_ne (by omega) _⟩
          replace HB : Below w.heap.size w (zb.setRow r3 (trC h m)) := below_setRow HB (by omega) _
          replace hz : w3.heap.size + 2 ≤ (zb.setRow r3 (trC h m)).heap.size := by simpa [World.setRow] using hz
          clear hst
          generalize zb.setRow r3 (trC h m) = zc at RT R2 R3 RP hm he HB hz ⊢
          go_wp2_with (refine wpLexS_nil ?_)
          clear hfrom he hm
          go_wp2_with fail
          have ff := find_any (w3.heap.size + 1) (w3.heap.size + 2) (tsK S ls k) (tsK_ok S hSl ls k) (UInt32.ofNat t) _ RP (by rw [tsK_len]; omega)
          rw [HW1.out] at ff
          refine ff.mono ?_
          intro e u hf
          obtain ⟨rfl, hb⟩ := FA.out _ _ _ hf
          clear hf ff
          have hbq : Below zc.heap.size zc (u.alloc (.cells (u8s h1) 33)) := hb.alloc hb.size _
          have RK1 : RowIs (u.alloc (.cells (u8s h1) 33)) u.heap.size (u8s h1) := RowIs.new _ _ _
          replace RT := RT.step hbq; replace R2 := R2.step hbq; replace R3 := R3.step hbq; replace RP := RP.step hbq
          replace HB := HB.trans (hbq.mono HB.size)
          clear hb hbq
          go_wp2_with fail
          have ff := find_any (w3.heap.size + 1) (w3.heap.size + 2) (tsK S ls k) (tsK_ok S hSl ls k) (UInt32.ofNat k) _ RP (by rw [tsK_len]; omega)
          rw [HW2.out] at ff
          refine ff.mono ?_
          intro e v hf
          obtain ⟨rfl, hb⟩ := FB.out _ _ _ hf
          clear hf RP ff
          have hbq : Below (u.alloc (.cells (u8s h1) 33)).heap.size (u.alloc (.cells (u8s h1) 33)) (v.alloc (.cells (u8s h) 33)) := hb.alloc hb.size _
          have RK2 : RowIs (v.alloc (.cells (u8s h) 33)) v.heap.size (u8s h) := RowIs.new _ _ _
          replace RT := RT.step hbq; replace R2 := R2.step hbq; replace R3 := R3.step hbq; replace RK1 := RK1.step hbq
          replace HB := HB.trans (hbq.mono HB.size)
          clear hb hbq
          have L1 := trload RT hlk
          have L2 := trload R3 hlk
          have L3 := kload14 RK1 hlk0
          have L4 := kload14 RK2 hlk
          have L5 := thead_row R2 hlk0
          have L6 := thead_row R3 hlk
          have L7 := trEq h hlk m
          have L8 := key_self' h1 hlk0
          have L9 := key_self' h hlk
          clear RT R2 R3 RK1 RK2
          go_wp2_with fail
          go_ret
          exact ⟨rfl, HB⟩
      · go_wp2_with fail
        have hb : Below y.heap.size y (y.alloc (.cells (trC (zeros 32) 0) 64)) := (by repeat (first | with_reducible exact Below.refl _ _ | with_reducible assumption | refine Below.drew ?_ | refine below_drewN ?_ | refine Below.alloc ?_ (by first | omega | (simp; done) | (simp; omega)) _ | refine below_setRow ?_ (by omega) _ | refine Below.setCell ?_ (by first | omega | (simp; done) | (simp; omega)) _))
        have qRT := RT.lt
        have qR1 := R1.lt
        have hzr := hz
        replace RP := RP.inn
        replace RT := RT.step hb
        replace R1 := R1.step hb
        replace RP := RP.step hb
        replace hm := hm.step hb
        replace he := he.step hb
        replace HB := HB.trans (hb.mono HB.size)
        replace hz := Nat.le_trans hz hb.size
        have R2 : RowIs (y.alloc (.cells (trC (zeros 32) 0) 64)) y.heap.size (trC (zeros 32) 0) := RowIs.new _ _ _
        refine hKL _ _ R1 (fun _ => ?_)
        clear hb
        generalize y.alloc (.cells (trC (zeros 32) 0) 64) = ya at RT R1 R2 RP hm he HB hz ⊢
        obtain ⟨r2, hrn⟩ : ∃ r, r = y.heap.size := ⟨_, rfl⟩
        rw [← hrn] at R2 RP hzr qRT qR1 ⊢
        clear hrn
        (go_wp2_with (first | (refine wpLexD_skip rfl ?_) | (refine wpLexD_pure (by decide) rfl (fun _ _ => ?_); go_simp; refine ⟨_, fun w9 hw9 => (by have s1 := trload (show RowIs _ _ (trC S 0) from hw9) hSl; go_simp; rfl), ?_⟩) | (refine wpLexD_pure0 (by decide) rfl (fun _ _ => ?_); go_simp; try go_bits) | (refine wpLexD_loud (by decide) rfl (fun KL hKL => ?_)) | (refine wpLexS_nil ?_) | (refine wpLexS_pure rfl (fun _ _ => ?_); go_simp; refine ⟨_, fun w9 hw9 => (by have s1 := trload (show RowIs _ _ (trC S 0) from hw9) hSl; go_simp; rfl), ?_⟩) | (refine wpLexS_pure0 rfl (fun _ _ => ?_); go_simp; try go_bits) | (refine wpLexS_read rfl (fun _ _ => ?_); go_simp; try go_bits) | (refine wpLexS_loud rfl (fun KL hKL => ?_))))
        refine (CA.out ya hm he (HBL.out.step HB)).mono ?_
        rintro e yb ⟨rfl, hm', hu⟩
        replace RT := RT.upd hu (by omega)
        replace R1 := R1.upd hu (by omega)
        replace R2 := R2.upd hu (by omega)
        replace RP := RP.upd hu (by omega) (by omega)
        replace he := hm.env he hu
        replace HB := hu.below HB (by omega) HB.size
        replace hz := Nat.le_trans hz hu.size
        have hm := hm'
        clear hu hm'
        go_wp2_with fail
        refine hKL _ _ R1 (fun _ => ?_)
        have hst := trStore yb r2 (trC h1 m1) (by rw [R2.has, trC_size _ (zeros_length 32)]) (trC_size h1 hlk0 _) (trC_one h1 _)
        (go_wp2_with (first | (refine wpLexD_skip rfl ?_) | (refine wpLexD_pure (by decide) rfl (fun _ _ => ?_); go_simp; refine ⟨_, fun w9 hw9 => (by have s1 := trload (show RowIs _ _ (trC S 0) from hw9) hSl; go_simp; rfl), ?_⟩) | (refine wpLexD_pure0 (by decide) rfl (fun _ _ => ?_); go_simp; try go_bits) | (refine wpLexD_loud (by decide) rfl (fun KL hKL => ?_)) | (refine wpLexS_nil ?_) | (refine wpLexS_pure rfl (fun _ _ => ?_); go_simp; refine ⟨_, fun w9 hw9 => (by have s1 := trload (show RowIs _ _ (trC S 0) from hw9) hSl; go_simp; rfl), ?_⟩) | (refine wpLexS_pure0 rfl (fun _ _ => ?_); go_simp; try go_bits) | (refine wpLexS_read rfl (fun _ _ => ?_); go_simp; try go_bits) | (refine wpLexS_loud rfl (fun KL hKL => ?_))))
        refine hKL _ _ (R1.set_ne (by omega) _) (fun _ => ?_)
        replace RT := RT.set_ne (show w3.heap.size ≠ r2 by omega) (trC h1 m1)
        replace R1 := R1.set_ne (show r1 ≠ r2 by omega) (trC h1 m1)
        replace R2 := R2.set (trC h1 m1)
        replace RP : PastAt (yb.setRow r2 (trC h1 m1)) (w3.heap.size + 1) (w3.heap.size + 2) (tsK S ls k) := RP.setRow (Nat.le_refl _) (by omega) _
        replace hm := hm.setRow_ne (show g ≠ r2 by omega) (trC h1 m1)
        replace he : ShaEnv (yb.setRow r2 (trC h1 m1)) := ⟨he.rounds.set_ne (by omega) _, he.start.set_ne (by omega) _⟩
        replace HB : Below w.heap.size w (yb.setRow r2 (trC h1 m1)) := below_setRow HB (by omega) _
        replace hz : w3.heap.size + 2 ≤ (yb.setRow r2 (trC h1 m1)).heap.size := by simpa [World.setRow] using hz
        clear hst
        generalize yb.setRow r2 (trC h1 m1) = yc at RT R1 R2 RP hm he HB hz ⊢
        go_wp2_with (refine wpLexS_nil ?_)
        have hfrom : ∀ w, (Instr.sliceAt 42 (.slice A k c) (some (.int .i64 t)) none none).run Tryd.prog w = .ok (.slice (subA A c t) (k - t) (c - t)) w := run_from Tryd.underlying42 (by kernel_rfl) A k c t ht
        have hb : Below yc.heap.size yc yc.drew := (by repeat (first | with_reducible exact Below.refl _ _ | with_reducible assumption | refine Below.drew ?_ | refine below_drewN ?_ | refine Below.alloc ?_ (by first | omega | (simp; done) | (simp; omega)) _ | refine below_setRow ?_ (by omega) _ | refine Below.setCell ?_ (by first | omega | (simp; done) | (simp; omega)) _))
        replace RT := RT.step hb
        replace R2 := R2.step hb
        replace RP := RP.step hb
        replace hm := hm.step hb
        replace he := he.step hb
        replace HB := HB.trans (hb.mono HB.size)
        replace hz := Nat.le_trans hz hb.size
        refine wp_region_lexF [] [0] 6 _ (OneR r2 (trC h1 m1)) rfl (by kernel_rfl) (by decide +kernel) R2 (fun _ => ?_)
        clear hb R1
        generalize yc.drew = z at RT R2 RP hm he HB hz ⊢
        (go_wp2_with (first | (refine wpLexF_here rfl ?_) | (refine wpLexF_pure (by decide) rfl (fun _ _ => ?_); go_simp; refine ⟨_, fun w9 hw9 => (by have s1 := trload (show RowIs _ _ (trC h1 m1) from hw9) hlk0; go_simp; rfl), ?_⟩) | (refine wpLexF_pure0 (by decide) rfl (fun _ _ => ?_); go_simp; try go_bits)))
        refine wpLexF_loud (by decide) rfl (fun KL hKL => ?_) (fun KL hKL => ?_)
        · go_wp2_with fail
          refine (CB.out z hm he (HBD.out.step HB)).mono ?_
          rintro e za ⟨rfl, hm', hu⟩
          replace RT := RT.upd hu (by omega)
          replace R2 := R2.upd hu (by omega)
          replace RP := RP.upd hu (by omega) (by omega)
          replace he := hm.env he hu
          replace HB := hu.below HB (by omega) HB.size
          replace hz := Nat.le_trans hz hu.size
          have hm := hm'
          clear hu hm'
          go_wp2_with fail
          refine hKL _ _ R2 (fun _ => ?_)
          (go_wp2_with (first | (refine wpLexF_here rfl ?_) | (refine wpLexF_pure (by decide) rfl (fun _ _ => ?_); go_simp; refine ⟨_, fun w9 hw9 => (by have s1 := trload (show RowIs _ _ (trC h1 m1) from hw9) hlk0; go_simp; rfl), ?_⟩) | (refine wpLexF_pure0 (by decide) rfl (fun _ _ => ?_); go_simp; try go_bits)))
          (go_wp2_with (first | (refine wpLexD_skip rfl ?_) | (refine wpLexD_pure (by decide) rfl (fun _ _ => ?_); go_simp; refine ⟨_, fun w9 hw9 => (by have s1 := trload (show RowIs _ _ (trC h1 m1) from hw9) hlk0; go_simp; rfl), ?_⟩) | (refine wpLexD_pure0 (by decide) rfl (fun _ _ => ?_); go_simp; try go_bits) | (refine wpLexD_loud (by decide) rfl (fun KL hKL => ?_)) | (refine wpLexS_nil ?_) | (refine wpLexS_pure rfl (fun _ _ => ?_); go_simp; refine ⟨_, fun w9 hw9 => (by have s1 := trload (show RowIs _ _ (trC h1 m1) from hw9) hlk0; go_simp; rfl), ?_⟩) | (refine wpLexS_pure0 rfl (fun _ _ => ?_); go_simp; try go_bits) | (refine wpLexS_read rfl (fun _ _ => ?_); go_simp; try go_bits) | (refine wpLexS_loud rfl (fun KL hKL => ?_))))
          have hb : Below za.heap.size za (za.alloc (.cells (trC (zeros 32) 0) 64)) := (by repeat (first | with_reducible exact Below.refl _ _ | with_reducible assumption | refine Below.drew ?_ | refine below_drewN ?_ | refine Below.alloc ?_ (by first | omega | (simp; done) | (simp; omega)) _ | refine below_setRow ?_ (by omega) _ | refine Below.setCell ?_ (by first | omega | (simp; done) | (simp; omega)) _))
          have qRT := RT.lt
          have qR2 := R2.lt
          have hzr := hz
          replace RP := RP.inn
          replace RT := RT.step hb
          replace R2 := R2.step hb
          replace RP := RP.step hb
          replace hm := hm.step hb
          replace he := he.step hb
          replace HB := HB.trans (hb.mono HB.size)
          replace hz := Nat.le_trans hz hb.size
          have R3 : RowIs (za.alloc (.cells (trC (zeros 32) 0) 64)) za.heap.size (trC (zeros 32) 0) := RowIs.new _ _ _
          refine hKL _ _ R2 (fun _ => ?_)
          clear hb
          generalize za.alloc (.cells (trC (zeros 32) 0) 64) = zb at RT R2 R3 RP hm he HB hz ⊢
          obtain ⟨r3, hrn⟩ : ∃ r, r = za.heap.size := ⟨_, rfl⟩
          rw [← hrn] at R3 RP hzr qRT qR2 ⊢
          clear hrn
          have hst := trStore zb r3 (trC h m) (by rw [R3.has, trC_size _ (zeros_length 32)]) (trC_size h hlk _) (trC_one h _)
          (go_wp2_with (first | (refine wpLexD_skip rfl ?_) | (refine wpLexD_pure (by decide) rfl (fun _ _ => ?_); go_simp; refine ⟨_, fun w9 hw9 => (by have s1 := trload (show RowIs _ _ (trC h1 m1) from hw9) hlk0; go_simp; rfl), ?_⟩) | (refine wpLexD_pure0 (by decide) rfl (fun _ _ => ?_); go_simp; try go_bits) | (refine wpLexD_loud (by decide) rfl (fun KL hKL => ?_)) | (refine wpLexS_nil ?_) | (refine wpLexS_pure rfl (fun _ _ => ?_); go_simp; refine ⟨_, fun w9 hw9 => (by have s1 := trload (show RowIs _ _ (trC h1 m1) from hw9) hlk0; go_simp; rfl), ?_⟩) | (refine wpLexS_pure0 rfl (fun _ _ => ?_); go_simp; try go_bits) | (refine wpLexS_read rfl (fun _ _ => ?_); go_simp; try go_bits) | (refine wpLexS_loud rfl (fun KL hKL => ?_))))
          refine hKL _ _ (R2.set_ne (by omega) _) (fun _ => ?_)
          replace RT := RT.set_ne (show w3.heap.size ≠ r3 by omega) (trC h m)
          replace R2 := R2.set_ne (show r2 ≠ r3 by omega) (trC h m)
          replace R3 := R3.set (trC h m)
          replace RP : PastAt (zb.setRow r3 (trC h m)) (w3.heap.size + 1) (w3.heap.size + 2) (tsK S ls k) := RP.setRow (Nat.le_refl _) (by omega) _
          replace hm := hm.setRow_ne (show g ≠ r3 by omega) (trC h m)
          replace he : ShaEnv (zb.setRow r3 (trC h m)) := ⟨he.rounds.set_ne (by omega) _, he.start.set_ne (by omega) _⟩
          replace HB : Below w.heap.size w (zb.setRow r3 (trC h m)) := below_setRow HB (by omega) _
          replace hz : w3.heap.size + 2 ≤ (zb.setRow r3 (trC h m)).heap.size := by simpa [World.setRow] using hz
          clear hst
          generalize zb.setRow r3 (trC h m) = zc at RT R2 R3 RP hm he HB hz ⊢
          go_wp2_with (refine wpLexS_nil ?_)
          clear hfrom he hm
          go_wp2_with fail
          have ff := find_any (w3.heap.size + 1) (w3.heap.size + 2) (tsK S ls k) (tsK_ok S hSl ls k) (UInt32.ofNat t) _ RP (by rw [tsK_len]; omega)
          rw [HW1.out] at ff
          refine ff.mono ?_
          intro e u hf
          obtain ⟨rfl, hb⟩ := FA.out _ _ _ hf
          clear hf ff
          have hbq : Below zc.heap.size zc (u.alloc (.cells (u8s h1) 33)) := hb.alloc hb.size _
          have RK1 : RowIs (u.alloc (.cells (u8s h1) 33)) u.heap.size (u8s h1) := RowIs.new _ _ _
          replace RT := RT.step hbq; replace R2 := R2.step hbq; replace R3 := R3.step hbq; replace RP := RP.step hbq
          replace HB := HB.trans (hbq.mono HB.size)
          clear hb hbq
          go_wp2_with fail
          have ff := find_any (w3.heap.size + 1) (w3.heap.size + 2) (tsK S ls k) (tsK_ok S hSl ls k) (UInt32.ofNat k) _ RP (by rw [tsK_len]; omega)
          rw [HW2.out] at ff
          refine ff.mono ?_
          intro e v hf
          obtain ⟨rfl, hb⟩ := FB.out _ _ _ hf
          clear hf RP ff
          have hbq : Below (u.alloc (.cells (u8s h1) 33)).heap.size (u.alloc (.cells (u8s h1) 33)) (v.alloc (.cells (u8s h) 33)) := hb.alloc hb.size _
          have RK2 : RowIs (v.alloc (.cells (u8s h) 33)) v.heap.size (u8s h) := RowIs.new _ _ _
          replace RT := RT.step hbq; replace R2 := R2.step hbq; replace R3 := R3.step hbq; replace RK1 := RK1.step hbq
          replace HB := HB.trans (hbq.mono HB.size)
          clear hb hbq
          have L1 := trload RT hlk
          have L2 := trload R3 hlk
          have L3 := kload14 RK1 hlk0
          have L4 := kload14 RK2 hlk
          have L5 := thead_row R2 hlk0
          have L6 := thead_row R3 hlk
          have L7 := trEq h hlk m
          have L8 := key_self' h1 hlk0
          have L9 := key_self' h hlk
          clear RT R2 R3 RK1 RK2
          go_wp2_with fail
          go_ret
          exact ⟨rfl, HB⟩
        · go_wp2_with fail
          have hb : Below z.heap.size z (z.alloc (.cells (trC (zeros 32) 0) 64)) := (by repeat (first | with_reducible exact Below.refl _ _ | with_reducible assumption | refine Below.drew ?_ | refine below_drewN ?_ | refine Below.alloc ?_ (by first | omega | (simp; done) | (simp; omega)) _ | refine below_setRow ?_ (by omega) _ | refine Below.setCell ?_ (by first | omega | (simp; done) | (simp; omega)) _))
          have qRT := RT.lt
          have qR2 := R2.lt
          have hzr := hz
          replace RP := RP.inn
          replace RT := RT.step hb
          replace R2 := R2.step hb
          replace RP := RP.step hb
          replace hm := hm.step hb
          replace he := he.step hb
          replace HB := HB.trans (hb.mono HB.size)
          replace hz := Nat.le_trans hz hb.size
          have R3 : RowIs (z.alloc (.cells (trC (zeros 32) 0) 64)) z.heap.size (trC (zeros 32) 0) := RowIs.new _ _ _
          refine hKL _ _ R2 (fun _ => ?_)
          clear hb
          generalize z.alloc (.cells (trC (zeros 32) 0) 64) = za at RT R2 R3 RP hm he HB hz ⊢
          obtain ⟨r3, hrn⟩ : ∃ r, r = z.heap.size := ⟨_, rfl⟩
          rw [← hrn] at R3 RP hzr qRT qR2 ⊢
          clear hrn
          (go_wp2_with (first | (refine wpLexD_skip rfl ?_) | (refine wpLexD_pure (by decide) rfl (fun _ _ => ?_); go_simp; refine ⟨_, fun w9 hw9 => (by have s1 := trload (show RowIs _ _ (trC h1 m1) from hw9) hlk0; go_simp; rfl), ?_⟩) | (refine wpLexD_pure0 (by decide) rfl (fun _ _ => ?_); go_simp; try go_bits) | (refine wpLexD_loud (by decide) rfl (fun KL hKL => ?_)) | (refine wpLexS_nil ?_) | (refine wpLexS_pure rfl (fun _ _ => ?_); go_simp; refine ⟨_, fun w9 hw9 => (by have s1 := trload (show RowIs _ _ (trC h1 m1) from hw9) hlk0; go_simp; rfl), ?_⟩) | (refine wpLexS_pure0 rfl (fun _ _ => ?_); go_simp; try go_bits) | (refine wpLexS_read rfl (fun _ _ => ?_); go_simp; try go_bits) | (refine wpLexS_loud rfl (fun KL hKL => ?_))))
          refine (CB.out za hm he (HBD.out.step HB)).mono ?_
          rintro e zb ⟨rfl, hm', hu⟩
          replace RT := RT.upd hu (by omega)
          replace R2 := R2.upd hu (by omega)
          replace R3 := R3.upd hu (by omega)
          replace RP := RP.upd hu (by omega) (by omega)
          replace he := hm.env he hu
          replace HB := hu.below HB (by omega) HB.size
          replace hz := Nat.le_trans hz hu.size
          have hm := hm'
          clear hu hm'
          go_wp2_with fail
          refine hKL _ _ R2 (fun _ => ?_)
          have hst := trStore zb r3 (trC h m) (by rw [R3.has, trC_size _ (zeros_length 32)]) (trC_size h hlk _) (trC_one h _)
          (go_wp2_with (first | (refine wpLexD_skip rfl ?_) | (refine wpLexD_pure (by decide) rfl (fun _ _ => ?_); go_simp; refine ⟨_, fun w9 hw9 => (by have s1 := trload (show RowIs _ _ (trC h1 m1) from hw9) hlk0; go_simp; rfl), ?_⟩) | (refine wpLexD_pure0 (by decide) rfl (fun _ _ => ?_); go_simp; try go_bits) | (refine wpLexD_loud (by decide) rfl (fun KL hKL => ?_)) | (refine wpLexS_nil ?_) | (refine wpLexS_pure rfl (fun _ _ => ?_); go_simp; refine ⟨_, fun w9 hw9 => (by have s1 := trload (show RowIs _ _ (trC h1 m1) from hw9) hlk0; go_simp; rfl), ?_⟩) | (refine wpLexS_pure0 rfl (fun _ _ => ?_); go_simp; try go_bits) | (refine wpLexS_read rfl (fun _ _ => ?_); go_simp; try go_bits) | (refine wpLexS_loud rfl (fun KL hKL => ?_))))
          refine hKL _ _ (R2.set_ne (by omega) _) (fun _ => ?_)
          replace RT := RT.set_ne (show w3.heap.size ≠ r3 by omega) (trC h m)
          replace R2 := R2.set_ne (show r2 ≠ r3 by omega) (trC h m)
          replace R3 := R3.set (trC h m)
          replace RP : PastAt (zb.setRow r3 (trC h m)) (w3.heap.size + 1) (w3.heap.size + 2) (tsK S ls k) := RP.setRow (Nat.le_refl _) (by omega) _
          replace hm := hm.setRow_ne (show g ≠ r3 by omega) (trC h m)
          replace he : ShaEnv (zb.setRow r3 (trC h m)) := ⟨he.rounds.set_ne (by omega) _, he.start.set_ne (by omega) _⟩
          replace HB : Below w.heap.size w (zb.setRow r3 (trC h m)) := below_setRow HB (by omega) _
          replace hz : w3.heap.size + 2 ≤ (zb.setRow r3 (trC h m)).heap.size := by simpa [World.setRow] using hz
          clear hst
          generalize zb.setRow r3 (trC h m) = zc at RT R2 R3 RP hm he HB hz ⊢
          go_wp2_with (refine wpLexS_nil ?_)
          clear hfrom he hm
          go_wp2_with fail
          have ff := find_any (w3.heap.size + 1) (w3.heap.size + 2) (tsK S ls k) (tsK_ok S hSl ls k) (UInt32.ofNat t) _ RP (by rw [tsK_len]; omega)
          rw [HW1.out] at ff
          refine ff.mono ?_
          intro e u hf
          obtain ⟨rfl, hb⟩ := FA.out _ _ _ hf
          clear hf ff
          have hbq : Below zc.heap.size zc (u.alloc (.cells (u8s h1) 33)) := hb.alloc hb.size _
          have RK1 : RowIs (u.alloc (.cells (u8s h1) 33)) u.heap.size (u8s h1) := RowIs.new _ _ _
          replace RT := RT.step hbq; replace R2 := R2.step hbq; replace R3 := R3.step hbq; replace RP := RP.step hbq
          replace HB := HB.trans (hbq.mono HB.size)
          clear hb hbq
          go_wp2_with fail
          have ff := find_any (w3.heap.size + 1) (w3.heap.size + 2) (tsK S ls k) (tsK_ok S hSl ls k) (UInt32.ofNat k) _ RP (by rw [tsK_len]; omega)
          rw [HW2.out] at ff
          refine ff.mono ?_
          intro e v hf
          obtain ⟨rfl, hb⟩ := FB.out _ _ _ hf
          clear hf RP ff
          have hbq : Below (u.alloc (.cells (u8s h1) 33)).heap.size (u.alloc (.cells (u8s h1) 33)) (v.alloc (.cells (u8s h) 33)) := hb.alloc hb.size _
          have RK2 : RowIs (v.alloc (.cells (u8s h) 33)) v.heap.size (u8s h) := RowIs.new _ _ _
          replace RT := RT.step hbq; replace R2 := R2.step hbq; replace R3 := R3.step hbq; replace RK1 := RK1.step hbq
          replace HB := HB.trans (hbq.mono HB.size)
          clear hb hbq
          have L1 := trload RT hlk
          have L2 := trload R3 hlk
          have L3 := kload14 RK1 hlk0
          have L4 := kload14 RK2 hlk
          have L5 := thead_row R2 hlk0
          have L6 := thead_row R3 hlk
          have L7 := trEq h hlk m
          have L8 := key_self' h1 hlk0
          have L9 := key_self' h hlk
          clear RT R2 R3 RK1 RK2
          go_wp2_with fail
          go_ret
          exact ⟨rfl, HB⟩
theorem walk_TrailCut (A : Option Addr) (c : Nat) (ls : List (List UInt8)) (t : Int) (w : World) (he : ShaEnv w) (hc : ls.length ≤ c) (hr : RdLs w w.heap.size A ls) (lo : -9223372036854775808 ≤ t) (hi : t ≤ 9223372036854775807) :
    Calls Tryd.prog 14 #[.slice A ls.length c, .int .i64 t] w (TrueRes' w) := by
  by_cases h : ls.length ≤ 10 ∧ 0 ≤ t ∧ t ≤ ls.length
  · obtain ⟨h1, h2, h3⟩ := h
    obtain ⟨m, rfl⟩ := Int.eq_ofNat_of_zero_le h2
    exact trailcut_any A c ls m w he hc hr h1 (by omega)
  · obtain ⟨n, hn⟩ : ∃ n, ls.length = n := ⟨_, rfl⟩
    rw [hn] at h ⊢
    have hd : (decide ((10 : Int) < n) || decide (t < 0)) = false → (n : Int) < t := by simp; omega
    clear hr hc hn
    by_cases hq : (10 : Int) < n
    · go_enter Tryd.func14, Tryd.ntmps14
      go_wp2_with (go_at_call 41; refine (awake14_any _ he).mono ?_; rintro e w1 ⟨rfl, hb1⟩)
      all_goals (go_ret; exact ⟨rfl, hb1⟩)
    · by_cases hq2 : t < 0
      · clear hd
        go_enter Tryd.func14, Tryd.ntmps14
        go_wp2_with (go_at_call 41; refine (awake14_any _ he).mono ?_; rintro e w1 ⟨rfl, hb1⟩)
        all_goals (go_ret; exact ⟨rfl, hb1⟩)
      · have hq3 : (n : Int) < t := by omega
        clear hd h
        go_enter Tryd.func14, Tryd.ntmps14
        go_wp2_with (go_at_call 41; refine (awake14_any _ he).mono ?_; rintro e w1 ⟨rfl, hb1⟩)
        all_goals (go_ret; exact ⟨rfl, hb1⟩)
end Go.Proofs.YtopmdbmnlflpgaaDoor
