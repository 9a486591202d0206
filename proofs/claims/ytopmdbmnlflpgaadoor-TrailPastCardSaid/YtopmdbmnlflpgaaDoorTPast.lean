/- TrailPast: the walk of the statement's function. Printed by gen_tpast.py. -/
import Derived.Test.YtopmdbmnlflpgaaDoorPstW
import Derived.Test.YtopmdbmnlflpgaaDoorAw14
namespace Go.Proofs.YtopmdbmnlflpgaaDoor
open Go.RowKit
theorem rpastBuild (w : World) : (Instr.build 106 #[]).run Tryd.prog w = .ok (.agg #[.slice none 0 0]) w := run_build w _ _ _ (by kernel_rfl)
attribute [local go_sem ↓] xopLoad xopStore xrtrBuild xtrBuild
attribute [local go_sem] pastBuild rpastBuild opZ opC_one rtrBuild2 trBuild2
theorem key_self2 (h : List UInt8) (hh : h.length = 32) (w : World) : (Op.equalIn 10000 33 (.agg (u8s h)) (.agg (u8s h))).run Tryd.prog w = .ok true w := by
  obtain ⟨i, hi⟩ := Option.isSome_iff_exists.1 (show (Tryd.prog.info? 5).isSome = true by kernel_rfl)
  rw [run_equalIn_array w 9999 (u8s h) (u8s h) Tryd.underlying33 hi, show Tryd.prog.cellsOf 5 = 1 by kernel_rfl, run_eqItems8 Tryd.underlying5 9998 h h w _ (fun j hj => by rw [List.mem_range] at hj; omega)]
  exact congrArg (fun b => Result.ok b w) (List.all_eq_true.2 fun i _ => by simp)
set_option maxRecDepth 100000 in
set_option maxHeartbeats 6400000 in
theorem trailpast_any (A : Option Addr) (c : Nat) (os : List POp) (w : World) (he : ShaEnv w) (hr : RdPo w w.heap.size A os) (hl : os.length ≤ 100) :
    Calls Tryd.prog 18 #[.slice A os.length c] w (TrueRes' w) := by
  have HR := Lib.hid hr
  obtain ⟨n, hn⟩ : ∃ n, n = os.length := ⟨_, rfl⟩
  have HN := Lib.hid hn
  rw [← hn] at hl ⊢
  have i1 : ¬ (100 : Int) < n := by omega
  clear hr hn
  go_enter Tryd.func18, Tryd.ntmps18
  go_wp2_with fail
  refine (awake14_any w he).mono ?_
  rintro e w1 ⟨rfl, HB⟩
  have hz1 := HB.size
  have hq : Below w1.heap.size w1 ((w1.alloc (.cells #[.slice none 0 0] 75)).alloc (.cells #[.slice none 0 0] 106)) := (by repeat (first | with_reducible exact Below.refl _ _ | with_reducible assumption | refine Below.drew ?_ | refine below_drewN ?_ | refine Below.alloc ?_ (by first | omega | (simp; done) | (simp; omega)) _ | refine below_setRow ?_ (by omega) _ | refine Below.setCell ?_ (by first | omega | (simp; done) | (simp; omega)) _))
  have R1 : RowIs ((w1.alloc (.cells #[.slice none 0 0] 75)).alloc (.cells #[.slice none 0 0] 106)) w1.heap.size #[.slice none 0 0] := (RowIs.new _ _ _).alloc _
  have R2 : RowIs ((w1.alloc (.cells #[.slice none 0 0] 75)).alloc (.cells #[.slice none 0 0] 106)) (w1.heap.size + 1) #[.slice none 0 0] := RowIs.new' (by simp)
  have T0 : TwoP ((w1.alloc (.cells #[.slice none 0 0] 75)).alloc (.cells #[.slice none 0 0] 106)) w1.heap.size (w1.heap.size + 1) (w1.heap.size + 2) [] [] :=
    ⟨by simp, by omega, by omega, by omega, _, _, R1, OwnT.nil _ _, R2, RdTs.nil _, (fun k e => by cases e), fun k e => by cases e⟩
  replace HB := HB.trans (hq.mono hz1)
  clear hq R1 R2 he
  go_wp2_with fail
  generalize (w1.alloc (.cells #[.slice none 0 0] 75)).alloc (.cells #[.slice none 0 0] 106) = w2 at T0 HB ⊢
  obtain ⟨p, hp⟩ : ∃ p, p = w1.heap.size := ⟨_, rfl⟩
  rw [← hp] at T0 hz1 ⊢
  obtain ⟨r, hr⟩ : ∃ r, r = p + 1 := ⟨_, rfl⟩
  rw [← hr] at T0 ⊢
  obtain ⟨base, hbase⟩ : ∃ b, b = p + 2 := ⟨_, rfl⟩
  rw [← hbase] at T0
  have hpw : w.heap.size ≤ p := hz1
  have hrw : w.heap.size ≤ r := by omega
  clear hp hr hbase hz1
  go_loopw [6] (fun i wr => ∃ (k : Nat) (ts : List Tr), i = .int .i64 k ∧ k ≤ n ∧ TwoP wr p r base ts ts ∧ OkT ts ∧ ts.length ≤ 64 ∧ Below w.heap.size w wr) (fun i _ => n - (intOf i).toNat)
  case atStart => exact ⟨0, [], rfl, by omega, T0, (fun t ht => by cases ht), by simp, HB⟩
  case round =>
    clear T0 HB
    obtain ⟨k, ts, rfl, hk, T, hok, hlen, HB⟩ := hrel
    by_cases hlt : k < n
    · have hlt' : k < os.length := by rw [← HN.out]; exact hlt
      obtain ⟨g, o, rfl, hg, hel⟩ := (HR.out.keep HB) (by omega)
      obtain ⟨hh, hat⟩ := hel k hlt'
      obtain ⟨d, hd⟩ : ∃ d, d = (nthO os k).d := ⟨_, rfl⟩
      obtain ⟨m, hm⟩ : ∃ m, m = (nthO os k).n := ⟨_, rfl⟩
      obtain ⟨Hd, hhe⟩ : ∃ h, h = (nthO os k).h := ⟨_, rfl⟩
      rw [← hd, ← hm, ← hhe] at hat
      rw [← hhe] at hh
      have hL := op_load hat hh
      have hk0 : (0 : Int) ≤ (k : Int) := by omega
      have hk1 : (k : Int) < n := by omega
      have hq8 : Below wr.heap.size wr (wr.alloc (.cells (opC d m Hd) 108)) := (by repeat (first | with_reducible exact Below.refl _ _ | with_reducible assumption | refine Below.drew ?_ | refine below_drewN ?_ | refine Below.alloc ?_ (by first | omega | (simp; done) | (simp; omega)) _ | refine below_setRow ?_ (by omega) _ | refine Below.setCell ?_ (by first | omega | (simp; done) | (simp; omega)) _))
      have RO : RowIs (wr.alloc (.cells (opC d m Hd) 108)) wr.heap.size (opC d m Hd) := RowIs.new _ _ _
      have R0 : RowIs (wr.alloc (.cells (opC 0 0 (zeros 32)) 108)) wr.heap.size (opC 0 0 (zeros 32)) := RowIs.new _ _ _
      have rs : (rowOf (wr.alloc (.cells (opC 0 0 (zeros 32)) 108)) wr.heap.size).size = 34 := by rw [R0.has, opC_size _ _ _ (zeros_length 32)]
      have hst := opStore (wr.alloc (.cells (opC 0 0 (zeros 32)) 108)) wr.heap.size (opC d m Hd) rs (opC_size _ _ _ hh) (opC_one _ _ _)
      have T2 := T.step hq8
      have HB2 := HB.trans (hq8.mono HB.size)
      have q0 := OpRow.c0 RO; have q1 := OpRow.c1 RO
      have hT := T2.ref
      obtain ⟨u, Ru, hRd⟩ := hT
      have cu := pcell Ru
      obtain ⟨Au, cu', eu, -, hrdu⟩ := id hRd
      subst eu
      have hpb := T.pb; have hrb := T.rb; have hbw := T.bz
      have hoff : ∀ v, (wr.alloc (.cells (opC d m Hd) 108)).cell? ⟨p, 0, none⟩ = some v → v.ownBlock ≠ some wr.heap.size := fun v hv e => by
        have := T.off (v := v) (by rw [← hq8.cell (p := ⟨p, 0, none⟩) (by show p < wr.heap.size; omega)]; exact hv) e
        omega
      clear R0 rs hq8 hd hm hhe hat hel T HB
      have hbo := RO.lt
      have HOFF := Lib.hid hoff
      have hl1000 : ts.length ≤ 1000 := by omega
      have hbp : wr.heap.size ≠ p := by omega
      have hbr : wr.heap.size ≠ r := by omega
      obtain ⟨L, hLe⟩ : ∃ L, L = ts.length := ⟨_, rfl⟩
      have HL := Lib.hid hLe
      rw [← hLe] at cu
      clear hoff hLe
      by_cases hd1 : d = 1
      · subst hd1
        obtain ⟨cc, ts2, hok2, hlen2, CP, CR⟩ := add_both ts hok hlen Hd hh m
        have CP := Lib.hid CP; have CR := Lib.hid CR
        have hKL := OpRow.head RO hh
        go_wp2_with fail
        refine (CP.out p r base w.heap.size ts _ hpw hrw T2).mono ?_
        rintro e W1 ⟨rfl, T3, hb1, stay⟩
        have RO1 := stay wr.heap.size _ RO hbp hbr HOFF.out
        have hKL1 := OpRow.head RO1 hh
        replace HB2 := HB2.trans hb1
        clear stay hb1 T2 hKL RO
        go_wp2_with fail
        refine (CR.out p r base w.heap.size ts2 _ hpw hrw T3).mono ?_
        rintro e W ⟨rfl, T, hb2, -⟩
        have HB := HB2.trans hb2
        clear hb2 T3 HB2 hKL1 RO1 CP CR HOFF hrdu
        have hcc : ((cc : Int) != cc) = false := by simp
        obtain ⟨u2, Ru2, hRd2⟩ := T.ref
        obtain ⟨Au2, cu2, eu2, hnc2, hrd2⟩ := id hRd2
        subst eu2
        have L1 := Lib.hid (len_any p base ts2 W T.past)
        have F1 := Lib.hid (first_any'' p base ts2 hok2 W T.past)
        have A1 := Lib.hid (trails_any p base ts2 hok2 W T.past (by omega))
        obtain ⟨q, hq⟩ : ∃ q, q = ts2.length := ⟨_, rfl⟩
        have HQ := Lib.hid hq
        rw [← hq] at L1
        clear hq
        go_wp2_with fail
        refine L1.out.mono ?_
        rintro e w' ⟨rfl, rfl⟩
        go_wp2_with fail
        refine F1.out.mono ?_
        rintro e w' ⟨rfl, rfl⟩
        go_wp2_with fail
        refine A1.out.mono ?_
        rintro e W2 ⟨v2, rfl, hv2, hb2⟩
        replace T := T.step hb2
        replace HB := HB.trans (hb2.mono HB.size)
        replace Ru2 := Ru2.step hb2
        replace hRd2 := hRd2.step hb2
        obtain ⟨Av, cv, ev, hncv, hrdv⟩ := id hv2
        subst ev
        obtain ⟨Aw, cw, ew, -, hrdw⟩ := id hRd2
        injection ew with e1 e2 e3
        subst e1
        clear e2 e3 hrd2 hb2 L1 F1 A1
        have c3 := pcell Ru2
        rw [← HQ.out] at c3 ⊢
        have F2 := Lib.hid (rfirst_any r ts2 hok2 W2 T.ref)
        have b1 : ((q : Int) != q) = false := by simp
        have b2 : ((n32 (firstN ts2) : Int) != n32 (firstN ts2)) = false := by simp
        go_wp2_with fail
        refine F2.out.mono ?_
        rintro e w' ⟨rfl, rfl⟩
        go_wp2_with fail
        have HV := Lib.hid hrdv; have HW := Lib.hid hrdw
        clear F2 b2 hrdv hrdw hv2 hRd2
        go_loopw [18] (fun j wr => ∃ i : Nat, j = .int .i64 i ∧ i ≤ q ∧ Below W2.heap.size W2 wr) (fun j _ => q - (intOf j).toNat)
        case atStart => exact ⟨0, rfl, by omega, Below.refl _ _⟩
        case round =>
          obtain ⟨i, rfl, hi, hb3⟩ := hrel
          have c4 := (hb3.cell (p := ⟨r, 0, none⟩) Ru2.lt).trans c3
          by_cases hiq : i < q
          · have hiq' : i < ts2.length := by rw [← HQ.out]; exact hiq
            obtain ⟨g1, o1, rfl, hg1, hel1⟩ := HV.out (by omega)
            obtain ⟨g2, o2, rfl, hg2, hel2⟩ := HW.out (by omega)
            have hh1 := nthT_ok hok2 hiq'
            have hel1 := hel1 i hiq'
            have hel2 := hel2 i hiq'
            obtain ⟨K, hK⟩ : ∃ K, K = (nthT ts2 i).1 := ⟨_, rfl⟩
            obtain ⟨N, hN⟩ : ∃ N, N = (nthT ts2 i).2 := ⟨_, rfl⟩
            rw [← hK, ← hN] at hel1 hel2
            rw [← hK] at hh1
            have hel3 : wr.rangeAt g1 (o1 + i * 33) (trL K N) := fun j u hu => (hb3.cell (p := ⟨g1, o1 + i * 33 + j, none⟩) hg1).trans (hel1 j u hu)
            have hel4 : wr.rangeAt g2 (o2 + i * 33) (trL K N) := fun j u hu => (hb3.cell (p := ⟨g2, o2 + i * 33 + j, none⟩) hg2).trans (hel2 j u hu)
            have i0 : (0 : Int) ≤ (i : Int) := by omega
            have i2 : (i : Int) < q := by omega
            have hks := key_self2 K hh1
            have hns : ((n32 N : Int) != n32 N) = false := by simp
            have hd : Below wr.heap.size wr wr.drew := (by repeat (first | with_reducible exact Below.refl _ _ | with_reducible assumption | refine Below.drew ?_ | refine below_drewN ?_ | refine Below.alloc ?_ (by first | omega | (simp; done) | (simp; omega)) _ | refine below_setRow ?_ (by omega) _ | refine Below.setCell ?_ (by first | omega | (simp; done) | (simp; omega)) _))
            clear hK hN hel1 hel2
            go_wp2_with fail
            refine wp_region_lexS [] [4, 8, 12, 19, 23, 27] (SameC wr) (by kernel_rfl) (by decide +kernel) (fun _ => rfl) (fun _ => ?_)
            (go_wp2_with (first | (refine wpLexS_nil ?_) | (refine wpLexS_pure rfl (fun _ _ => ?_); go_simp; refine ⟨_, fun w9 hw9 => (by have s1 := (hw9 _).trans c4; have s2 := thead_at (show w9.rangeAt _ _ _ from fun j u hu => (hw9 _).trans (hel3 j u hu)) hh1; have s3 := thead_at (show w9.rangeAt _ _ _ from fun j u hu => (hw9 _).trans (hel4 j u hu)) hh1; have s4 := (hw9 _).trans (tr_num hel3 hh1); have s5 := (hw9 _).trans (tr_num hel4 hh1); go_simp; rfl), ?_⟩) | (refine wpLexS_pure0 rfl (fun _ _ => ?_); go_simp; try go_bits) | (refine wpLexS_read rfl (fun _ _ => ?_); go_simp; try go_bits) | (refine wpLexS_loud rfl (fun KL hKL => ?_))))
            exact ⟨⟨i + 1, by go_num, by omega, hb3.trans (hd.mono hb3.size)⟩, by simp [intOf]; omega⟩
          · have ei : i = q := by omega
            subst ei
            have hne : ¬ ((i : Int) < i) := by omega
            replace T := T.step hb3
            replace HB := HB.trans (hb3.mono HB.size)
            clear hne c4 c3 Ru2
            go_wp2_with fail
            exact ⟨⟨k + 1, ts2, by go_num, by omega, T, hok2, hlen2, HB⟩, by simp [intOf]; omega⟩
      by_cases hd4 : d = 4
      · by_cases hL0 : L = 0
        · have hl0 : ¬ (0 : Int) < (L : Int) := by omega
          subst hd4
          clear hd1 hL0
          obtain ⟨cc, ts2, hok2, hlen2, CP, CR⟩ := add_both ts hok hlen Hd hh m
          have CP := Lib.hid CP; have CR := Lib.hid CR
          have hKL := OpRow.head RO hh
          go_wp2_with fail
          refine (CP.out p r base w.heap.size ts _ hpw hrw T2).mono ?_
          rintro e W1 ⟨rfl, T3, hb1, stay⟩
          have RO1 := stay wr.heap.size _ RO hbp hbr HOFF.out
          have hKL1 := OpRow.head RO1 hh
          replace HB2 := HB2.trans hb1
          clear stay hb1 T2 hKL RO
          go_wp2_with fail
          refine (CR.out p r base w.heap.size ts2 _ hpw hrw T3).mono ?_
          rintro e W ⟨rfl, T, hb2, -⟩
          have HB := HB2.trans hb2
          clear hb2 T3 HB2 hKL1 RO1 CP CR HOFF hrdu
          have hcc : ((cc : Int) != cc) = false := by simp
          obtain ⟨u2, Ru2, hRd2⟩ := T.ref
          obtain ⟨Au2, cu2, eu2, hnc2, hrd2⟩ := id hRd2
          subst eu2
          have L1 := Lib.hid (len_any p base ts2 W T.past)
          have F1 := Lib.hid (first_any'' p base ts2 hok2 W T.past)
          have A1 := Lib.hid (trails_any p base ts2 hok2 W T.past (by omega))
          obtain ⟨q, hq⟩ : ∃ q, q = ts2.length := ⟨_, rfl⟩
          have HQ := Lib.hid hq
          rw [← hq] at L1
          clear hq
          go_wp2_with fail
          refine L1.out.mono ?_
          rintro e w' ⟨rfl, rfl⟩
          go_wp2_with fail
          refine F1.out.mono ?_
          rintro e w' ⟨rfl, rfl⟩
          go_wp2_with fail
          refine A1.out.mono ?_
          rintro e W2 ⟨v2, rfl, hv2, hb2⟩
          replace T := T.step hb2
          replace HB := HB.trans (hb2.mono HB.size)
          replace Ru2 := Ru2.step hb2
          replace hRd2 := hRd2.step hb2
          obtain ⟨Av, cv, ev, hncv, hrdv⟩ := id hv2
          subst ev
          obtain ⟨Aw, cw, ew, -, hrdw⟩ := id hRd2
          injection ew with e1 e2 e3
          subst e1
          clear e2 e3 hrd2 hb2 L1 F1 A1
          have c3 := pcell Ru2
          rw [← HQ.out] at c3 ⊢
          have F2 := Lib.hid (rfirst_any r ts2 hok2 W2 T.ref)
          have b1 : ((q : Int) != q) = false := by simp
          have b2 : ((n32 (firstN ts2) : Int) != n32 (firstN ts2)) = false := by simp
          go_wp2_with fail
          refine F2.out.mono ?_
          rintro e w' ⟨rfl, rfl⟩
          go_wp2_with fail
          have HV := Lib.hid hrdv; have HW := Lib.hid hrdw
          clear F2 b2 hrdv hrdw hv2 hRd2
          go_loopw [18] (fun j wr => ∃ i : Nat, j = .int .i64 i ∧ i ≤ q ∧ Below W2.heap.size W2 wr) (fun j _ => q - (intOf j).toNat)
          case atStart => exact ⟨0, rfl, by omega, Below.refl _ _⟩
          case round =>
            obtain ⟨i, rfl, hi, hb3⟩ := hrel
            have c4 := (hb3.cell (p := ⟨r, 0, none⟩) Ru2.lt).trans c3
            by_cases hiq : i < q
            · have hiq' : i < ts2.length := by rw [← HQ.out]; exact hiq
              obtain ⟨g1, o1, rfl, hg1, hel1⟩ := HV.out (by omega)
              obtain ⟨g2, o2, rfl, hg2, hel2⟩ := HW.out (by omega)
              have hh1 := nthT_ok hok2 hiq'
              have hel1 := hel1 i hiq'
              have hel2 := hel2 i hiq'
              obtain ⟨K, hK⟩ : ∃ K, K = (nthT ts2 i).1 := ⟨_, rfl⟩
              obtain ⟨N, hN⟩ : ∃ N, N = (nthT ts2 i).2 := ⟨_, rfl⟩
              rw [← hK, ← hN] at hel1 hel2
              rw [← hK] at hh1
              have hel3 : wr.rangeAt g1 (o1 + i * 33) (trL K N) := fun j u hu => (hb3.cell (p := ⟨g1, o1 + i * 33 + j, none⟩) hg1).trans (hel1 j u hu)
              have hel4 : wr.rangeAt g2 (o2 + i * 33) (trL K N) := fun j u hu => (hb3.cell (p := ⟨g2, o2 + i * 33 + j, none⟩) hg2).trans (hel2 j u hu)
              have i0 : (0 : Int) ≤ (i : Int) := by omega
              have i2 : (i : Int) < q := by omega
              have hks := key_self2 K hh1
              have hns : ((n32 N : Int) != n32 N) = false := by simp
              have hd : Below wr.heap.size wr wr.drew := (by repeat (first | with_reducible exact Below.refl _ _ | with_reducible assumption | refine Below.drew ?_ | refine below_drewN ?_ | refine Below.alloc ?_ (by first | omega | (simp; done) | (simp; omega)) _ | refine below_setRow ?_ (by omega) _ | refine Below.setCell ?_ (by first | omega | (simp; done) | (simp; omega)) _))
              clear hK hN hel1 hel2
              go_wp2_with fail
              refine wp_region_lexS [] [4, 8, 12, 19, 23, 27] (SameC wr) (by kernel_rfl) (by decide +kernel) (fun _ => rfl) (fun _ => ?_)
              (go_wp2_with (first | (refine wpLexS_nil ?_) | (refine wpLexS_pure rfl (fun _ _ => ?_); go_simp; refine ⟨_, fun w9 hw9 => (by have s1 := (hw9 _).trans c4; have s2 := thead_at (show w9.rangeAt _ _ _ from fun j u hu => (hw9 _).trans (hel3 j u hu)) hh1; have s3 := thead_at (show w9.rangeAt _ _ _ from fun j u hu => (hw9 _).trans (hel4 j u hu)) hh1; have s4 := (hw9 _).trans (tr_num hel3 hh1); have s5 := (hw9 _).trans (tr_num hel4 hh1); go_simp; rfl), ?_⟩) | (refine wpLexS_pure0 rfl (fun _ _ => ?_); go_simp; try go_bits) | (refine wpLexS_read rfl (fun _ _ => ?_); go_simp; try go_bits) | (refine wpLexS_loud rfl (fun KL hKL => ?_))))
              exact ⟨⟨i + 1, by go_num, by omega, hb3.trans (hd.mono hb3.size)⟩, by simp [intOf]; omega⟩
            · have ei : i = q := by omega
              subst ei
              have hne : ¬ ((i : Int) < i) := by omega
              replace T := T.step hb3
              replace HB := HB.trans (hb3.mono HB.size)
              clear hne c4 c3 Ru2
              go_wp2_with fail
              exact ⟨⟨k + 1, ts2, by go_num, by omega, T, hok2, hlen2, HB⟩, by simp [intOf]; omega⟩
        · have hl0 : (0 : Int) < (L : Int) := by omega
          obtain ⟨gu, ou, rfl, hgu, helu⟩ := hrdu (by rw [← HL.out]; omega)
          have hnum := tr_num (helu (ts.length - 1) (by rw [← HL.out]; omega)) (nthT_ok hok (by rw [← HL.out]; omega))
          rw [← HL.out] at hnum
          obtain ⟨y, hy⟩ : ∃ y, y = (nthT ts (L - 1)).2 := ⟨_, rfl⟩
          rw [← hy] at hnum
          have hL64 : L ≤ 64 := by rw [HL.out]; exact hlen
          have hsub : (L : Int) - 1 = ((L - 1 : Nat) : Int) := by omega
          have hi3 : (((L - 1 : Nat) : Int)) < L := by omega
          have hi4 : (0 : Int) ≤ ((L - 1 : Nat) : Int) := by omega
          have hwr : IntKind.u32.wrap (n32 y + 1) = n32 (y + 1) := by rw [n32_def, n32_def, UInt32.toNat_add, wrap_u32]; simp
          subst hd4
          have hd : Below (wr.alloc (.cells (opC 4 m Hd) 108)).heap.size (wr.alloc (.cells (opC 4 m Hd) 108)) (wr.alloc (.cells (opC 4 m Hd) 108)).drew := (by repeat (first | with_reducible exact Below.refl _ _ | with_reducible assumption | refine Below.drew ?_ | refine below_drewN ?_ | refine Below.alloc ?_ (by first | omega | (simp; done) | (simp; omega)) _ | refine below_setRow ?_ (by omega) _ | refine Below.setCell ?_ (by first | omega | (simp; done) | (simp; omega)) _))
          clear hd1 hL0 hy helu hrdu
          go_wp2_with fail
          refine wp_region_lexS [] [3, 7, 12] (SameC (wr.alloc (.cells (opC 4 m Hd) 108))) (by kernel_rfl) (by decide +kernel) (fun _ => rfl) (fun _ => ?_)
          replace RO := RO.step hd
          replace T2 := T2.step hd
          replace HB2 := HB2.trans (hd.mono HB2.size)
          replace q0 := OpRow.c0 RO
          replace q1 := OpRow.c1 RO
          have hKL := OpRow.head RO hh
          have HOFF2 : Hid (∀ v, (wr.alloc (.cells (opC 4 m Hd) 108)).drew.cell? ⟨p, 0, none⟩ = some v → v.ownBlock ≠ some wr.heap.size) := HOFF
          clear hd Ru hRd hst HOFF
          generalize (wr.alloc (.cells (opC 4 m Hd) 108)).drew = W0 at T2 RO HB2 q0 q1 HOFF2 hKL ⊢
          have HOFF := HOFF2
          clear HOFF2
          (go_wp2_with (first | (refine wpLexS_nil ?_) | (refine wpLexS_pure rfl (fun _ _ => ?_); go_simp; refine ⟨_, fun w9 hw9 => (by have s1 := (hw9 _).trans cu; have s2 := (hw9 _).trans hnum; go_simp; rfl), ?_⟩) | (refine wpLexS_pure0 rfl (fun _ _ => ?_); go_simp; try go_bits) | (refine wpLexS_read rfl (fun _ _ => ?_); go_simp; try go_bits) | (refine wpLexS_loud rfl (fun KL hKL => ?_))))
          clear cu hnum
          obtain ⟨cc, ts2, hok2, hlen2, CP, CR⟩ := add_both ts hok hlen Hd hh (y + 1)
          have CP := Lib.hid CP; have CR := Lib.hid CR
          refine (CP.out p r base w.heap.size ts _ hpw hrw T2).mono ?_
          rintro e W1 ⟨rfl, T3, hb1, stay⟩
          have RO1 := stay wr.heap.size _ RO hbp hbr HOFF.out
          have hKL1 := OpRow.head RO1 hh
          replace HB2 := HB2.trans hb1
          clear stay hb1 T2 hKL RO
          go_wp2_with fail
          refine (CR.out p r base w.heap.size ts2 _ hpw hrw T3).mono ?_
          rintro e W ⟨rfl, T, hb2, -⟩
          have HB := HB2.trans hb2
          clear hb2 T3 HB2 hKL1 RO1 CP CR HOFF
          have hcc : ((cc : Int) != cc) = false := by simp
          obtain ⟨u2, Ru2, hRd2⟩ := T.ref
          obtain ⟨Au2, cu2, eu2, hnc2, hrd2⟩ := id hRd2
          subst eu2
          have L1 := Lib.hid (len_any p base ts2 W T.past)
          have F1 := Lib.hid (first_any'' p base ts2 hok2 W T.past)
          have A1 := Lib.hid (trails_any p base ts2 hok2 W T.past (by omega))
          obtain ⟨q, hq⟩ : ∃ q, q = ts2.length := ⟨_, rfl⟩
          have HQ := Lib.hid hq
          rw [← hq] at L1
          clear hq
          go_wp2_with fail
          refine L1.out.mono ?_
          rintro e w' ⟨rfl, rfl⟩
          go_wp2_with fail
          refine F1.out.mono ?_
          rintro e w' ⟨rfl, rfl⟩
          go_wp2_with fail
          refine A1.out.mono ?_
          rintro e W2 ⟨v2, rfl, hv2, hb2⟩
          replace T := T.step hb2
          replace HB := HB.trans (hb2.mono HB.size)
          replace Ru2 := Ru2.step hb2
          replace hRd2 := hRd2.step hb2
          obtain ⟨Av, cv, ev, hncv, hrdv⟩ := id hv2
          subst ev
          obtain ⟨Aw, cw, ew, -, hrdw⟩ := id hRd2
          injection ew with e1 e2 e3
          subst e1
          clear e2 e3 hrd2 hb2 L1 F1 A1
          have c3 := pcell Ru2
          rw [← HQ.out] at c3 ⊢
          have F2 := Lib.hid (rfirst_any r ts2 hok2 W2 T.ref)
          have b1 : ((q : Int) != q) = false := by simp
          have b2 : ((n32 (firstN ts2) : Int) != n32 (firstN ts2)) = false := by simp
          go_wp2_with fail
          refine F2.out.mono ?_
          rintro e w' ⟨rfl, rfl⟩
          go_wp2_with fail
          have HV := Lib.hid hrdv; have HW := Lib.hid hrdw
          clear F2 b2 hrdv hrdw hv2 hRd2
          go_loopw [18] (fun j wr => ∃ i : Nat, j = .int .i64 i ∧ i ≤ q ∧ Below W2.heap.size W2 wr) (fun j _ => q - (intOf j).toNat)
          case atStart => exact ⟨0, rfl, by omega, Below.refl _ _⟩
          case round =>
            obtain ⟨i, rfl, hi, hb3⟩ := hrel
            have c4 := (hb3.cell (p := ⟨r, 0, none⟩) Ru2.lt).trans c3
            by_cases hiq : i < q
            · have hiq' : i < ts2.length := by rw [← HQ.out]; exact hiq
              obtain ⟨g1, o1, rfl, hg1, hel1⟩ := HV.out (by omega)
              obtain ⟨g2, o2, rfl, hg2, hel2⟩ := HW.out (by omega)
              have hh1 := nthT_ok hok2 hiq'
              have hel1 := hel1 i hiq'
              have hel2 := hel2 i hiq'
              obtain ⟨K, hK⟩ : ∃ K, K = (nthT ts2 i).1 := ⟨_, rfl⟩
              obtain ⟨N, hN⟩ : ∃ N, N = (nthT ts2 i).2 := ⟨_, rfl⟩
              rw [← hK, ← hN] at hel1 hel2
              rw [← hK] at hh1
              have hel3 : wr.rangeAt g1 (o1 + i * 33) (trL K N) := fun j u hu => (hb3.cell (p := ⟨g1, o1 + i * 33 + j, none⟩) hg1).trans (hel1 j u hu)
              have hel4 : wr.rangeAt g2 (o2 + i * 33) (trL K N) := fun j u hu => (hb3.cell (p := ⟨g2, o2 + i * 33 + j, none⟩) hg2).trans (hel2 j u hu)
              have i0 : (0 : Int) ≤ (i : Int) := by omega
              have i2 : (i : Int) < q := by omega
              have hks := key_self2 K hh1
              have hns : ((n32 N : Int) != n32 N) = false := by simp
              have hd : Below wr.heap.size wr wr.drew := (by repeat (first | with_reducible exact Below.refl _ _ | with_reducible assumption | refine Below.drew ?_ | refine below_drewN ?_ | refine Below.alloc ?_ (by first | omega | (simp; done) | (simp; omega)) _ | refine below_setRow ?_ (by omega) _ | refine Below.setCell ?_ (by first | omega | (simp; done) | (simp; omega)) _))
              clear hK hN hel1 hel2
              go_wp2_with fail
              refine wp_region_lexS [] [4, 8, 12, 19, 23, 27] (SameC wr) (by kernel_rfl) (by decide +kernel) (fun _ => rfl) (fun _ => ?_)
              (go_wp2_with (first | (refine wpLexS_nil ?_) | (refine wpLexS_pure rfl (fun _ _ => ?_); go_simp; refine ⟨_, fun w9 hw9 => (by have s1 := (hw9 _).trans c4; have s2 := thead_at (show w9.rangeAt _ _ _ from fun j u hu => (hw9 _).trans (hel3 j u hu)) hh1; have s3 := thead_at (show w9.rangeAt _ _ _ from fun j u hu => (hw9 _).trans (hel4 j u hu)) hh1; have s4 := (hw9 _).trans (tr_num hel3 hh1); have s5 := (hw9 _).trans (tr_num hel4 hh1); go_simp; rfl), ?_⟩) | (refine wpLexS_pure0 rfl (fun _ _ => ?_); go_simp; try go_bits) | (refine wpLexS_read rfl (fun _ _ => ?_); go_simp; try go_bits) | (refine wpLexS_loud rfl (fun KL hKL => ?_))))
              exact ⟨⟨i + 1, by go_num, by omega, hb3.trans (hd.mono hb3.size)⟩, by simp [intOf]; omega⟩
            · have ei : i = q := by omega
              subst ei
              have hne : ¬ ((i : Int) < i) := by omega
              replace T := T.step hb3
              replace HB := HB.trans (hb3.mono HB.size)
              clear hne c4 c3 Ru2
              go_wp2_with fail
              exact ⟨⟨k + 1, ts2, by go_num, by omega, T, hok2, hlen2, HB⟩, by simp [intOf]; omega⟩
      by_cases hd2 : d = 2
      · subst hd2
        have FP := Lib.hid (find_any p base ts hok m (wr.alloc (.cells (opC 2 m Hd) 108)) T2.past hl1000)
        go_wp2_with fail
        refine FP.out.mono ?_
        intro e W1 hf
        obtain ⟨rfl, hb⟩ := hf.out
        clear hf
        have hKl := findP_len m ts hok
        obtain ⟨K, hK⟩ : ∃ K, K = (findP m ts).1 := ⟨_, rfl⟩
        obtain ⟨cc, hc⟩ : ∃ c, c = (findP m ts).2 := ⟨_, rfl⟩
        rw [← hK] at hKl
        have HK := Lib.hid hK; have HC := Lib.hid hc
        rw [← hK, ← hc]
        clear hK hc
        have hb1 : Below (wr.alloc (.cells (opC 2 m Hd) 108)).heap.size (wr.alloc (.cells (opC 2 m Hd) 108)) (W1.alloc (.cells (u8s K) 33)) := hb.alloc hb.size _
        have RK1 : RowIs (W1.alloc (.cells (u8s K) 33)) W1.heap.size (u8s K) := RowIs.new _ _ _
        replace T2 := T2.step hb1
        replace HB2 := HB2.trans (hb1.mono HB2.size)
        have FR := Lib.hid (rfind_any r ts hok m _ T2.ref hl1000)
        clear hb hb1 FP
        go_wp2_with fail
        refine FR.out.mono ?_
        intro e W2 hf
        obtain ⟨rfl, hb⟩ := hf.out
        clear hf
        rw [← HK.out, ← HC.out]
        have hb1 : Below (W1.alloc (.cells (u8s K) 33)).heap.size (W1.alloc (.cells (u8s K) 33)) (W2.alloc (.cells (u8s K) 33)) := hb.alloc hb.size _
        have RK2 : RowIs (W2.alloc (.cells (u8s K) 33)) W2.heap.size (u8s K) := RowIs.new _ _ _
        have T := T2.step hb1
        replace RK1 := RK1.step hb1
        have HB := HB2.trans (hb1.mono HB2.size)
        have KL1 := kload14 RK1 hKl
        have KL2 := kload14 RK2 hKl
        have KS := key_self2 K hKl
        have hok2 := hok
        have hlen2 := hlen
        clear hb hb1 FR T2 HB2 RK1 RK2 HK HC cu Ru hRd hst q0 q1 RO HOFF hrdu
        go_wp2_with fail
        obtain ⟨W, hW⟩ : ∃ W, W = W2.alloc (.cells (u8s K) 33) := ⟨_, rfl⟩
        rw [← hW] at T HB KL1 KL2 ⊢
        clear hW KL1 KL2 KS
        obtain ⟨ts2, hts2⟩ : ∃ t, t = ts := ⟨_, rfl⟩
        rw [← hts2] at T hok2 hlen2
        clear hts2
        have hcc : ((cc : Int) != cc) = false := by simp
        obtain ⟨u2, Ru2, hRd2⟩ := T.ref
        obtain ⟨Au2, cu2, eu2, hnc2, hrd2⟩ := id hRd2
        subst eu2
        have L1 := Lib.hid (len_any p base ts2 W T.past)
        have F1 := Lib.hid (first_any'' p base ts2 hok2 W T.past)
        have A1 := Lib.hid (trails_any p base ts2 hok2 W T.past (by omega))
        obtain ⟨q, hq⟩ : ∃ q, q = ts2.length := ⟨_, rfl⟩
        have HQ := Lib.hid hq
        rw [← hq] at L1
        clear hq
        go_wp2_with fail
        refine L1.out.mono ?_
        rintro e w' ⟨rfl, rfl⟩
        go_wp2_with fail
        refine F1.out.mono ?_
        rintro e w' ⟨rfl, rfl⟩
        go_wp2_with fail
        refine A1.out.mono ?_
        rintro e W2 ⟨v2, rfl, hv2, hb2⟩
        replace T := T.step hb2
        replace HB := HB.trans (hb2.mono HB.size)
        replace Ru2 := Ru2.step hb2
        replace hRd2 := hRd2.step hb2
        obtain ⟨Av, cv, ev, hncv, hrdv⟩ := id hv2
        subst ev
        obtain ⟨Aw, cw, ew, -, hrdw⟩ := id hRd2
        injection ew with e1 e2 e3
        subst e1
        clear e2 e3 hrd2 hb2 L1 F1 A1
        have c3 := pcell Ru2
        rw [← HQ.out] at c3 ⊢
        have F2 := Lib.hid (rfirst_any r ts2 hok2 W2 T.ref)
        have b1 : ((q : Int) != q) = false := by simp
        have b2 : ((n32 (firstN ts2) : Int) != n32 (firstN ts2)) = false := by simp
        go_wp2_with fail
        refine F2.out.mono ?_
        rintro e w' ⟨rfl, rfl⟩
        go_wp2_with fail
        have HV := Lib.hid hrdv; have HW := Lib.hid hrdw
        clear F2 b2 hrdv hrdw hv2 hRd2
        go_loopw [18] (fun j wr => ∃ i : Nat, j = .int .i64 i ∧ i ≤ q ∧ Below W2.heap.size W2 wr) (fun j _ => q - (intOf j).toNat)
        case atStart => exact ⟨0, rfl, by omega, Below.refl _ _⟩
        case round =>
          obtain ⟨i, rfl, hi, hb3⟩ := hrel
          have c4 := (hb3.cell (p := ⟨r, 0, none⟩) Ru2.lt).trans c3
          by_cases hiq : i < q
          · have hiq' : i < ts2.length := by rw [← HQ.out]; exact hiq
            obtain ⟨g1, o1, rfl, hg1, hel1⟩ := HV.out (by omega)
            obtain ⟨g2, o2, rfl, hg2, hel2⟩ := HW.out (by omega)
            have hh1 := nthT_ok hok2 hiq'
            have hel1 := hel1 i hiq'
            have hel2 := hel2 i hiq'
            obtain ⟨K, hK⟩ : ∃ K, K = (nthT ts2 i).1 := ⟨_, rfl⟩
            obtain ⟨N, hN⟩ : ∃ N, N = (nthT ts2 i).2 := ⟨_, rfl⟩
            rw [← hK, ← hN] at hel1 hel2
            rw [← hK] at hh1
            have hel3 : wr.rangeAt g1 (o1 + i * 33) (trL K N) := fun j u hu => (hb3.cell (p := ⟨g1, o1 + i * 33 + j, none⟩) hg1).trans (hel1 j u hu)
            have hel4 : wr.rangeAt g2 (o2 + i * 33) (trL K N) := fun j u hu => (hb3.cell (p := ⟨g2, o2 + i * 33 + j, none⟩) hg2).trans (hel2 j u hu)
            have i0 : (0 : Int) ≤ (i : Int) := by omega
            have i2 : (i : Int) < q := by omega
            have hks := key_self2 K hh1
            have hns : ((n32 N : Int) != n32 N) = false := by simp
            have hd : Below wr.heap.size wr wr.drew := (by repeat (first | with_reducible exact Below.refl _ _ | with_reducible assumption | refine Below.drew ?_ | refine below_drewN ?_ | refine Below.alloc ?_ (by first | omega | (simp; done) | (simp; omega)) _ | refine below_setRow ?_ (by omega) _ | refine Below.setCell ?_ (by first | omega | (simp; done) | (simp; omega)) _))
            clear hK hN hel1 hel2
            go_wp2_with fail
            refine wp_region_lexS [] [4, 8, 12, 19, 23, 27] (SameC wr) (by kernel_rfl) (by decide +kernel) (fun _ => rfl) (fun _ => ?_)
            (go_wp2_with (first | (refine wpLexS_nil ?_) | (refine wpLexS_pure rfl (fun _ _ => ?_); go_simp; refine ⟨_, fun w9 hw9 => (by have s1 := (hw9 _).trans c4; have s2 := thead_at (show w9.rangeAt _ _ _ from fun j u hu => (hw9 _).trans (hel3 j u hu)) hh1; have s3 := thead_at (show w9.rangeAt _ _ _ from fun j u hu => (hw9 _).trans (hel4 j u hu)) hh1; have s4 := (hw9 _).trans (tr_num hel3 hh1); have s5 := (hw9 _).trans (tr_num hel4 hh1); go_simp; rfl), ?_⟩) | (refine wpLexS_pure0 rfl (fun _ _ => ?_); go_simp; try go_bits) | (refine wpLexS_read rfl (fun _ _ => ?_); go_simp; try go_bits) | (refine wpLexS_loud rfl (fun KL hKL => ?_))))
            exact ⟨⟨i + 1, by go_num, by omega, hb3.trans (hd.mono hb3.size)⟩, by simp [intOf]; omega⟩
          · have ei : i = q := by omega
            subst ei
            have hne : ¬ ((i : Int) < i) := by omega
            replace T := T.step hb3
            replace HB := HB.trans (hb3.mono HB.size)
            clear hne c4 c3 Ru2
            go_wp2_with fail
            exact ⟨⟨k + 1, ts2, by go_num, by omega, T, hok2, hlen2, HB⟩, by simp [intOf]; omega⟩
      by_cases hd3 : d = 3
      · subst hd3
        have FP := Lib.hid (forget_two p r base w.heap.size ts ts hok m (wr.alloc (.cells (opC 3 m Hd) 108)) hpw T2 hl1000)
        go_wp2_with fail
        refine FP.out.mono ?_
        rintro e W1 ⟨rfl, T3, hb1⟩
        replace HB2 := HB2.trans hb1
        have FR := Lib.hid (rforget_two p r base w.heap.size (forgT m ts) ts hok m W1 hrw T3 hl1000)
        clear hb1 FP T2 T3
        go_wp2_with fail
        refine FR.out.mono ?_
        rintro e W ⟨rfl, T, hb1⟩
        have HB := HB2.trans hb1
        have hok2 := forgT_ok (n := m) hok
        have hlen2 := Nat.le_trans (forgT_len (n := m) (ts := ts)) hlen
        obtain ⟨ts2, hts2⟩ : ∃ t, t = forgT m ts := ⟨_, rfl⟩
        rw [← hts2] at T hok2 hlen2
        clear hts2 hb1 FR HB2 cu Ru hRd hst q0 q1 RO HOFF hrdu
        obtain ⟨u2, Ru2, hRd2⟩ := T.ref
        obtain ⟨Au2, cu2, eu2, hnc2, hrd2⟩ := id hRd2
        subst eu2
        have L1 := Lib.hid (len_any p base ts2 W T.past)
        have F1 := Lib.hid (first_any'' p base ts2 hok2 W T.past)
        have A1 := Lib.hid (trails_any p base ts2 hok2 W T.past (by omega))
        obtain ⟨q, hq⟩ : ∃ q, q = ts2.length := ⟨_, rfl⟩
        have HQ := Lib.hid hq
        rw [← hq] at L1
        clear hq
        go_wp2_with fail
        refine L1.out.mono ?_
        rintro e w' ⟨rfl, rfl⟩
        go_wp2_with fail
        refine F1.out.mono ?_
        rintro e w' ⟨rfl, rfl⟩
        go_wp2_with fail
        refine A1.out.mono ?_
        rintro e W2 ⟨v2, rfl, hv2, hb2⟩
        replace T := T.step hb2
        replace HB := HB.trans (hb2.mono HB.size)
        replace Ru2 := Ru2.step hb2
        replace hRd2 := hRd2.step hb2
        obtain ⟨Av, cv, ev, hncv, hrdv⟩ := id hv2
        subst ev
        obtain ⟨Aw, cw, ew, -, hrdw⟩ := id hRd2
        injection ew with e1 e2 e3
        subst e1
        clear e2 e3 hrd2 hb2 L1 F1 A1
        have c3 := pcell Ru2
        rw [← HQ.out] at c3 ⊢
        have F2 := Lib.hid (rfirst_any r ts2 hok2 W2 T.ref)
        have b1 : ((q : Int) != q) = false := by simp
        have b2 : ((n32 (firstN ts2) : Int) != n32 (firstN ts2)) = false := by simp
        go_wp2_with fail
        refine F2.out.mono ?_
        rintro e w' ⟨rfl, rfl⟩
        go_wp2_with fail
        have HV := Lib.hid hrdv; have HW := Lib.hid hrdw
        clear F2 b2 hrdv hrdw hv2 hRd2
        go_loopw [18] (fun j wr => ∃ i : Nat, j = .int .i64 i ∧ i ≤ q ∧ Below W2.heap.size W2 wr) (fun j _ => q - (intOf j).toNat)
        case atStart => exact ⟨0, rfl, by omega, Below.refl _ _⟩
        case round =>
          obtain ⟨i, rfl, hi, hb3⟩ := hrel
          have c4 := (hb3.cell (p := ⟨r, 0, none⟩) Ru2.lt).trans c3
          by_cases hiq : i < q
          · have hiq' : i < ts2.length := by rw [← HQ.out]; exact hiq
            obtain ⟨g1, o1, rfl, hg1, hel1⟩ := HV.out (by omega)
            obtain ⟨g2, o2, rfl, hg2, hel2⟩ := HW.out (by omega)
            have hh1 := nthT_ok hok2 hiq'
            have hel1 := hel1 i hiq'
            have hel2 := hel2 i hiq'
            obtain ⟨K, hK⟩ : ∃ K, K = (nthT ts2 i).1 := ⟨_, rfl⟩
            obtain ⟨N, hN⟩ : ∃ N, N = (nthT ts2 i).2 := ⟨_, rfl⟩
            rw [← hK, ← hN] at hel1 hel2
            rw [← hK] at hh1
            have hel3 : wr.rangeAt g1 (o1 + i * 33) (trL K N) := fun j u hu => (hb3.cell (p := ⟨g1, o1 + i * 33 + j, none⟩) hg1).trans (hel1 j u hu)
            have hel4 : wr.rangeAt g2 (o2 + i * 33) (trL K N) := fun j u hu => (hb3.cell (p := ⟨g2, o2 + i * 33 + j, none⟩) hg2).trans (hel2 j u hu)
            have i0 : (0 : Int) ≤ (i : Int) := by omega
            have i2 : (i : Int) < q := by omega
            have hks := key_self2 K hh1
            have hns : ((n32 N : Int) != n32 N) = false := by simp
            have hd : Below wr.heap.size wr wr.drew := (by repeat (first | with_reducible exact Below.refl _ _ | with_reducible assumption | refine Below.drew ?_ | refine below_drewN ?_ | refine Below.alloc ?_ (by first | omega | (simp; done) | (simp; omega)) _ | refine below_setRow ?_ (by omega) _ | refine Below.setCell ?_ (by first | omega | (simp; done) | (simp; omega)) _))
            clear hK hN hel1 hel2
            go_wp2_with fail
            refine wp_region_lexS [] [4, 8, 12, 19, 23, 27] (SameC wr) (by kernel_rfl) (by decide +kernel) (fun _ => rfl) (fun _ => ?_)
            (go_wp2_with (first | (refine wpLexS_nil ?_) | (refine wpLexS_pure rfl (fun _ _ => ?_); go_simp; refine ⟨_, fun w9 hw9 => (by have s1 := (hw9 _).trans c4; have s2 := thead_at (show w9.rangeAt _ _ _ from fun j u hu => (hw9 _).trans (hel3 j u hu)) hh1; have s3 := thead_at (show w9.rangeAt _ _ _ from fun j u hu => (hw9 _).trans (hel4 j u hu)) hh1; have s4 := (hw9 _).trans (tr_num hel3 hh1); have s5 := (hw9 _).trans (tr_num hel4 hh1); go_simp; rfl), ?_⟩) | (refine wpLexS_pure0 rfl (fun _ _ => ?_); go_simp; try go_bits) | (refine wpLexS_read rfl (fun _ _ => ?_); go_simp; try go_bits) | (refine wpLexS_loud rfl (fun KL hKL => ?_))))
            exact ⟨⟨i + 1, by go_num, by omega, hb3.trans (hd.mono hb3.size)⟩, by simp [intOf]; omega⟩
          · have ei : i = q := by omega
            subst ei
            have hne : ¬ ((i : Int) < i) := by omega
            replace T := T.step hb3
            replace HB := HB.trans (hb3.mono HB.size)
            clear hne c4 c3 Ru2
            go_wp2_with fail
            exact ⟨⟨k + 1, ts2, by go_num, by omega, T, hok2, hlen2, HB⟩, by simp [intOf]; omega⟩
      have e1 : (d == 1) = false := by simpa using hd1
      have e4 : (d == 4) = false := by simpa using hd4
      have e2 : (d == 2) = false := by simpa using hd2
      have e3 : (d == 3) = false := by simpa using hd3
      have hok2 := hok
      have hlen2 := hlen
      clear hd1 hd2 hd3 hd4
      obtain ⟨W, hW⟩ : ∃ W, W = (wr.alloc (.cells (opC d m Hd) 108)) := ⟨_, rfl⟩
      have T := T2
      have HB := HB2
      have LS := Lib.hid (len_any p base ts (wr.alloc (.cells (opC d m Hd) 108)) T2.past)
      obtain ⟨ts2, hts2⟩ : ∃ t, t = ts := ⟨_, rfl⟩
      have L1 := Lib.hid (len_any p base ts2 W (by rw [hW, hts2]; exact T2.past))
      rw [← hts2] at T hok2 hlen2
      rw [← hW] at T HB
      go_wp2_with fail
      rw [← hW]
      clear hW hts2 LS T2 HB2 cu Ru hRd hst q0 q1 RO HOFF hrdu hL
      obtain ⟨u2, Ru2, hRd2⟩ := T.ref
      obtain ⟨Au2, cu2, eu2, hnc2, hrd2⟩ := id hRd2
      subst eu2
      have F1 := Lib.hid (first_any'' p base ts2 hok2 W T.past)
      have A1 := Lib.hid (trails_any p base ts2 hok2 W T.past (by omega))
      obtain ⟨q, hq⟩ : ∃ q, q = ts2.length := ⟨_, rfl⟩
      have HQ := Lib.hid hq
      rw [← hq] at L1
      clear hq
      refine L1.out.mono ?_
      rintro e w' ⟨rfl, rfl⟩
      go_wp2_with fail
      refine F1.out.mono ?_
      rintro e w' ⟨rfl, rfl⟩
      go_wp2_with fail
      refine A1.out.mono ?_
      rintro e W2 ⟨v2, rfl, hv2, hb2⟩
      replace T := T.step hb2
      replace HB := HB.trans (hb2.mono HB.size)
      replace Ru2 := Ru2.step hb2
      replace hRd2 := hRd2.step hb2
      obtain ⟨Av, cv, ev, hncv, hrdv⟩ := id hv2
      subst ev
      obtain ⟨Aw, cw, ew, -, hrdw⟩ := id hRd2
      injection ew with e1 e2 e3
      subst e1
      clear e2 e3 hrd2 hb2 L1 F1 A1
      have c3 := pcell Ru2
      rw [← HQ.out] at c3 ⊢
      have F2 := Lib.hid (rfirst_any r ts2 hok2 W2 T.ref)
      have b1 : ((q : Int) != q) = false := by simp
      have b2 : ((n32 (firstN ts2) : Int) != n32 (firstN ts2)) = false := by simp
      go_wp2_with fail
      refine F2.out.mono ?_
      rintro e w' ⟨rfl, rfl⟩
      go_wp2_with fail
      have HV := Lib.hid hrdv; have HW := Lib.hid hrdw
      clear F2 b2 hrdv hrdw hv2 hRd2
      go_loopw [18] (fun j wr => ∃ i : Nat, j = .int .i64 i ∧ i ≤ q ∧ Below W2.heap.size W2 wr) (fun j _ => q - (intOf j).toNat)
      case atStart => exact ⟨0, rfl, by omega, Below.refl _ _⟩
      case round =>
        obtain ⟨i, rfl, hi, hb3⟩ := hrel
        have c4 := (hb3.cell (p := ⟨r, 0, none⟩) Ru2.lt).trans c3
        by_cases hiq : i < q
        · have hiq' : i < ts2.length := by rw [← HQ.out]; exact hiq
          obtain ⟨g1, o1, rfl, hg1, hel1⟩ := HV.out (by omega)
          obtain ⟨g2, o2, rfl, hg2, hel2⟩ := HW.out (by omega)
          have hh1 := nthT_ok hok2 hiq'
          have hel1 := hel1 i hiq'
          have hel2 := hel2 i hiq'
          obtain ⟨K, hK⟩ : ∃ K, K = (nthT ts2 i).1 := ⟨_, rfl⟩
          obtain ⟨N, hN⟩ : ∃ N, N = (nthT ts2 i).2 := ⟨_, rfl⟩
          rw [← hK, ← hN] at hel1 hel2
          rw [← hK] at hh1
          have hel3 : wr.rangeAt g1 (o1 + i * 33) (trL K N) := fun j u hu => (hb3.cell (p := ⟨g1, o1 + i * 33 + j, none⟩) hg1).trans (hel1 j u hu)
          have hel4 : wr.rangeAt g2 (o2 + i * 33) (trL K N) := fun j u hu => (hb3.cell (p := ⟨g2, o2 + i * 33 + j, none⟩) hg2).trans (hel2 j u hu)
          have i0 : (0 : Int) ≤ (i : Int) := by omega
          have i2 : (i : Int) < q := by omega
          have hks := key_self2 K hh1
          have hns : ((n32 N : Int) != n32 N) = false := by simp
          have hd : Below wr.heap.size wr wr.drew := (by repeat (first | with_reducible exact Below.refl _ _ | with_reducible assumption | refine Below.drew ?_ | refine below_drewN ?_ | refine Below.alloc ?_ (by first | omega | (simp; done) | (simp; omega)) _ | refine below_setRow ?_ (by omega) _ | refine Below.setCell ?_ (by first | omega | (simp; done) | (simp; omega)) _))
          clear hK hN hel1 hel2
          go_wp2_with fail
          refine wp_region_lexS [] [4, 8, 12, 19, 23, 27] (SameC wr) (by kernel_rfl) (by decide +kernel) (fun _ => rfl) (fun _ => ?_)
          (go_wp2_with (first | (refine wpLexS_nil ?_) | (refine wpLexS_pure rfl (fun _ _ => ?_); go_simp; refine ⟨_, fun w9 hw9 => (by have s1 := (hw9 _).trans c4; have s2 := thead_at (show w9.rangeAt _ _ _ from fun j u hu => (hw9 _).trans (hel3 j u hu)) hh1; have s3 := thead_at (show w9.rangeAt _ _ _ from fun j u hu => (hw9 _).trans (hel4 j u hu)) hh1; have s4 := (hw9 _).trans (tr_num hel3 hh1); have s5 := (hw9 _).trans (tr_num hel4 hh1); go_simp; rfl), ?_⟩) | (refine wpLexS_pure0 rfl (fun _ _ => ?_); go_simp; try go_bits) | (refine wpLexS_read rfl (fun _ _ => ?_); go_simp; try go_bits) | (refine wpLexS_loud rfl (fun KL hKL => ?_))))
          exact ⟨⟨i + 1, by go_num, by omega, hb3.trans (hd.mono hb3.size)⟩, by simp [intOf]; omega⟩
        · have ei : i = q := by omega
          subst ei
          have hne : ¬ ((i : Int) < i) := by omega
          replace T := T.step hb3
          replace HB := HB.trans (hb3.mono HB.size)
          clear hne c4 c3 Ru2
          go_wp2_with fail
          exact ⟨⟨k + 1, ts2, by go_num, by omega, T, hok2, hlen2, HB⟩, by simp [intOf]; omega⟩
    · have ek : k = n := by omega
      subst ek
      have hne : ¬ ((k : Int) < k) := by omega
      go_wp2_with fail
      go_ret
      exact ⟨rfl, HB⟩
end Go.Proofs.YtopmdbmnlflpgaaDoor
