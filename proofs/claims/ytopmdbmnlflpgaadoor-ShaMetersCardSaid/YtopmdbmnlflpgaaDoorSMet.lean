/- ShaMeters: the walk of the statement's function. Printed by gen_smet.py. -/
import Derived.Test.YtopmdbmnlflpgaaDoorKLW
import Derived.Test.YtopmdbmnlflpgaaDoorLs2
import Derived.Test.YtopmdbmnlflpgaaDoorLsArg
import Derived.Test.YtopmdbmnlflpgaaDoorFloat
namespace Go.Proofs.YtopmdbmnlflpgaaDoor
open Go.RowKit
theorem logQBuild (k : Bool) (w : World) : (buildK 44 #[(0, .bool k)]).run Tryd.prog w = .ok (.value (.agg #[.bool k, .int .i64 0, .slice none 0 0])) w :=
  run_buildK (by change _ = _; kernel_rfl) w
theorem xlogQBuild (ev : Operand → Value) (d : Option Tmp) (ps : Array (Nat × Operand)) (ty : TypeId) (p : String) (af : Array Edge) (g : Option (Nat × Bool)) :
    execOp ev ⟨d, .build 44 ps, ty, p, af, g⟩ = buildK 44 (ps.map fun x => (x.1, ev x.2)) := exec_buildK ev d _ ps ty p af g
attribute [local go_sem ↓] xlogQBuild
attribute [local go_sem] logQBuild
theorem mstore (w : World) (g : Nat) (cs : Array Value) (hr : (rowOf w g).size = 32) (hc : cs.size = 32) (h1 : cs.all (·.oneCell') = true) :
    (storeAgg 33 (.pointer (some ⟨g, 0, none⟩)) (.agg cs)).run Tryd.prog w = .ok .skip (w.setRow g cs) :=
  run_storeAgg 32 33 (by omega) (by kernel_rfl) w g cs hr hc h1
theorem run_append8sX {P : Program} {w : World} {t e : TypeId} (ht : P.underlying t = some (.slice e)) (hi : (P.info? e).map (fun i => (i.zero, i.size, i.bytes)) = some (some (.int .u8 0), 1, 1)) (ty : TypeId)
    (base B : Nat) (v : Value) (l : List UInt8) (hown : Own8 e w base v l) (A : Option Addr) (c : Nat) (bs : List UInt8) (hr : Rd8 w B A bs) (hlen : l.length + bs.length ≤ 140737488355328) (hbase : base ≤ w.heap.size) :
    ∃ v' w', (Builtin.append_ #[t, t] ty #[v, .slice A bs.length c]).run P w = .ok v' w' ∧ Own8 e w' base v' (l ++ bs) ∧ w.grownBy w' v.ownBlock ∧ ∀ k, v'.ownBlock = some k → v.ownBlock = some k ∨ k = w.heap.size := by
  obtain ⟨i, hi1, hz, hs1, hb1⟩ := info_parts hi
  by_cases h0 : bs.length = 0
  · obtain rfl : bs = [] := List.eq_nil_of_length_eq_zero h0
    obtain ⟨A', c', rfl⟩ := hown.slice
    have hsrc : Src P i.size t (.slice A 0 c) 0 [] w := by
      cases A with
      | none => exact Src.ofNil w ht c
      | some a => exact Src.ofSlice w ht a 0 c [] (by simp) (fun j u hu => by simp at hu) (fun u hu => by cases hu)
    refine ⟨_, w, run_append_nothing w t t ty e i ht hi1 A' l.length c' hown.len.2 _ hsrc, by rw [List.append_nil]; exact hown, ⟨rfl, rfl, rfl, Nat.le_refl _, fun _ _ _ => rfl⟩, fun k hk => .inl hk⟩
  · obtain ⟨g, o, rfl, _, hc⟩ := hr (by omega)
    obtain ⟨g', cap, w', hrun, h2, h3, h4, _⟩ := run_append_lies (P := P) w t ty base e i _ 1 1 ht hi1 hz hs1 hb1 rfl (by omega) v l.length (u8v l) hown ⟨g, o, none⟩ bs.length c (u8v bs) (by rw [u8v_length]; omega)
      (fun j u hu => by
        have hj : j < bs.length := by
          rcases Nat.lt_or_ge j bs.length with h | h
          · exact h
          · rw [List.getElem?_eq_none (by rw [u8v_length]; exact h)] at hu; cases hu
        have e1 : (⟨g, o, none⟩ : Addr).add j = ⟨g, o + j, none⟩ := by unfold Addr.add; split <;> simp_all
        rw [e1, hc j hj]
        rw [u8v_get bs j hj] at hu
        exact hu)
      (u8v_one bs) (by omega) (by simp only [maxLen]; omega) (by omega) hbase w.heap.size rfl
    refine ⟨_, w', hrun, ?_, h3, fun k hk => ?_⟩
    · unfold Own8
      rw [List.length_append, ← u8v_append]
      exact h2
    · have hk' : g' = k := Option.some.inj hk
      subst hk'
      exact h4
theorem wpList_appendBsX {P : Program} {w : World} {t e : TypeId} {ops : Array Oper} {rest : List Oper} {o : Oper} {a : Act} {Q : Exit → Act → World → Prop} (ht : P.underlying t = some (.slice e)) (hi : (P.info? e).map (fun i => (i.zero, i.size, i.bytes)) = some (some (.int .u8 0), 1, 1))
    (hgd : o.guard = none) (s x : Operand) (ho : o.op = .call { callee := .builtin .append, args := #[s, x], argTypes := #[t, t] })
    (base : Nat) {v vx : Value} {l bs L : List UInt8} {N : Nat} (hs : a.eval s = v) (hown : Own8 e w base v l) (hx : a.eval x = vx) (hb : Bs w vx bs) (hL : l ++ bs = L) (hN : L.length = N)
    (hlen : N ≤ 140737488355328) (hbase : base ≤ w.heap.size)
    (h : ∀ A' c' w', Own8 e w' base (.slice A' N c') L → w.grownBy w' v.ownBlock → (∀ k, (Value.slice A' N c').ownBlock = some k → v.ownBlock = some k ∨ k = w.heap.size) → wpList P ops Q rest (a.put o.dst (.slice A' N c')) w') : wpList P ops Q (o :: rest) a w := by
  obtain ⟨A, c, rfl, h1, h2, h3⟩ := hb
  subst hL; subst hN
  refine wpList_plain hgd fun K hK => ?_
  obtain ⟨v', w', hrun, g2, g3, g4⟩ := run_append8sX (w := w) ht hi o.type base _ v l hown A c bs h3 (by rwa [List.length_append] at hlen) hbase
  obtain ⟨A', c', rfl⟩ := g2.slice
  unfold Oper.wp execOp
  simp only [ho, resolve, invoke, builtin, Sem.run_bind, Sem.run_pure, Result.andThen_ok, List.map_toArray, List.map_cons, List.map_nil, hs, hx, hrun]
  exact hK _ _ (h A' c' w' g2 g3 g4)
theorem own8lt {T : TypeId} {w : World} {base : Nat} {v : Value} {l : List UInt8} (h : Own8 T w base v l) {k : Nat} (hk : v.ownBlock = some k) : base ≤ k ∧ k < w.heap.size := by
  rcases h.2 with ⟨h1, _⟩ | ⟨g, cap, cur, hv, hg, hh, _⟩
  · rw [h1] at hk; simp [Value.ownBlock] at hk
  · rw [hv] at hk
    have hk' : g = k := Option.some.inj hk
    subst hk'
    exact ⟨hg, (Array.getElem?_eq_some_iff.1 hh).1⟩
/-- all that was there stays -/
def BelS (w W : World) : Prop := Below w.heap.size w W
/-- the first k pairs, each put together -/
def pairs (ls : BL) : Nat → BL
  | 0 => []
  | k + 1 => pairs ls k ++ [nthL ls (2 * k) ++ nthL ls (2 * k + 1)]
theorem pairs_len (ls : BL) : ∀ k, (pairs ls k).length = k
  | 0 => rfl
  | k + 1 => by rw [pairs, List.length_append, pairs_len ls k]; rfl
theorem kq_len (kp : Bool) (ks : BL) : (kq kp ks).length ≤ ks.length := by cases kp <;> simp [kq]
theorem kq_all {kp : Bool} {ks : BL} {n : Nat} (h : ∀ x ∈ ks, x.length ≤ n) : ∀ i, i < (kq kp ks).length → (nthL (kq kp ks) i).length ≤ n := fun i hi => by
  have hm : ∀ x ∈ kq kp ks, x.length ≤ n := fun x hx => by
    cases kp
    · simp [kq] at hx
    · exact h x hx
  rw [nthL_def, List.getD_eq_getElem?_getD, List.getElem?_eq_getElem hi]
  exact hm _ (List.getElem_mem hi)
theorem log_no8 {w : World} {r base : Nat} {kp : Bool} {n : Int} {v : Value} {ks : BL} (hR : RowIs w r #[.bool kp, .int .i64 n, v]) (ho : OwnL w base v ks) : No8 w r := by
  obtain ⟨A, c, rfl, _⟩ := ho.slice
  exact no8_row hR (by simp)
theorem met_no8 {w : World} {g base : Nat} {kp : Bool} {n : Int} {v : Value} {ks : BL} (hm : Met w g n kp v) (ho : OwnL w base v ks) : No8 w g := by
  obtain ⟨A, c, e, _⟩ := ho.slice
  exact hm.no8 (by rw [e]; intro b; simp)
set_option maxRecDepth 100000 in
set_option maxHeartbeats 25600000 in
theorem shameters_any (A : Option Addr) (c : Nat) (ls : BL) (kp : Bool) (w : World) (he0 : ShaEnv w) (hc : ls.length ≤ c) (hr : RdLm w w.heap.size A ls) (hl : ls.length ≤ 12) :
    Calls Tryd.prog 11 #[.slice A ls.length c, .bool kp] w (TrueRes' w) := by
  obtain ⟨m, hm'⟩ : ∃ m, m = ls.length := ⟨_, rfl⟩
  have HM := Lib.hid hm'
  have HR := Lib.hid hr
  rw [← hm'] at hc hl ⊢
  have i1 : ¬ (12 : Int) < m := by omega
  clear hm' hr
  go_enter Tryd.func11, Tryd.ntmps11
  go_wp2_with fail
  refine (awake_any _ he0).mono ?_
  rintro e w1 ⟨rfl, HB⟩
  have hz1 := HB.size
  go_wp2_with fail
  refine (new_any kp _).mono ?_
  rintro e w2 ⟨g, rfl, hm, hg, hb2⟩
  replace HB := HB.trans (hb2.mono HB.size)
  have hgl := RowIs.lt hm
  have hwg : w.heap.size ≤ g := by omega
  clear hb2
  have hq : Below w2.heap.size w2 (w2.alloc (.cells #[.bool kp, .int .i64 0, .slice none 0 0] 44)) := (by repeat (first | with_reducible exact Below.refl _ _ | with_reducible assumption | refine Below.drew ?_ | refine below_drewN ?_ | refine Below.alloc ?_ (by first | omega | (simp; done) | (simp; omega)) _ | refine below_setRow ?_ (by omega) _ | refine Below.setCell ?_ (by first | omega | (simp; done) | (simp; omega)) _))
  have hR : RowIs (w2.alloc (.cells #[.bool kp, .int .i64 0, .slice none 0 0] 44)) w2.heap.size #[.bool kp, .int .i64 0, .slice none 0 0] := RowIs.new _ _ _
  replace hm : Met _ g 0 kp (.slice none 0 0) := RowIs.step hm hq
  replace HB := HB.trans (hq.mono HB.size)
  have hbz : w2.heap.size + 1 ≤ (w2.alloc (.cells #[.bool kp, .int .i64 0, .slice none 0 0] 44)).heap.size := by simp
  clear hq
  go_wp2_with fail
  generalize w2.alloc (.cells #[.bool kp, .int .i64 0, .slice none 0 0] 44) = w3 at hm hR HB hbz ⊢
  obtain ⟨r, hr⟩ : ∃ r, r = w2.heap.size := ⟨_, rfl⟩
  rw [← hr] at hR hbz hgl ⊢
  obtain ⟨bs, hbs⟩ : ∃ bs, bs = r + 1 := ⟨_, rfl⟩
  rw [← hbs] at hbz
  have hgr : g < r := hgl
  have hrb : r < bs := by omega
  have hgb : g < bs := by omega
  have hwb : w.heap.size ≤ bs := by omega
  have hwr : w.heap.size ≤ r := by omega
  have nil0 : kq kp (pairs ls 0) = [] := by cases kp <;> rfl
  clear hr hbs hgl hg hz1
  go_loopw [9] (fun v wr => ∃ (k : Nat) (n : Int) (vm vl : Value), v = .int .i64 ((2 * k : Nat) : Int) ∧ n = (k : Int) ∧ 2 * k ≤ m ∧ Met wr g n kp vm ∧ OwnL wr bs vm (kq kp (pairs ls k)) ∧ RowIs wr r #[.bool kp, .int .i64 n, vl] ∧ OwnL wr bs vl (kq kp (pairs ls k)) ∧ (∀ b, vl.ownBlock = some b → vm.ownBlock ≠ some b ∧ b ≠ g) ∧ Below w.heap.size w wr ∧ bs ≤ wr.heap.size ∧ (∀ x ∈ pairs ls k, x.length ≤ 400)) (fun v _ => 20 - (intOf v).toNat)
  case atStart =>
    exact ⟨0, 0, _, _, rfl, rfl, by omega, hm, by rw [nil0]; exact OwnL.nil _ _, hR, by rw [nil0]; exact OwnL.nil _ _, fun b hb => by simp [Value.ownBlock] at hb, HB, hbz, fun x hx => by simp [pairs] at hx⟩
  case round =>
    clear hm hR HB hbz nil0
    obtain ⟨k, n, vm, vl, rfl, hn, h2k, hm, om, hR, ol, hap, HB, hbz, hall⟩ := hrel
    obtain ⟨x, hx⟩ : ∃ x, x = 2 * k := ⟨_, rfl⟩
    obtain ⟨y, hy⟩ : ∃ y, y = x + 1 := ⟨_, rfl⟩
    rw [← hx] at h2k ⊢
    have hxy : (x : Int) + 1 = (y : Int) := by omega
    have i4 : (x : Int) + 1 ≤ 9223372036854775807 := by omega
    have i5 : (y : Int) ≤ 9223372036854775807 := by omega
    have i6 : (x : Int) + 2 ≤ 9223372036854775807 := by omega
    have HX := Lib.hid hx; have HY := Lib.hid hy; have HN := Lib.hid hn
    have hpl := pairs_len ls k
    by_cases hlt : y < m
    · have j1 : (y : Int) < m := by omega
      have j2 : (x : Int) < m := by omega
      obtain ⟨gl, og, rfl, hgl, hel⟩ := HR.out (by have := HM.out; omega)
      obtain ⟨A1, c1, e1, hc1, hd1⟩ := hel x (by have := HM.out; omega)
      obtain ⟨A2, c2, e2, hc2, hd2⟩ := hel y (by have := HM.out; omega)
      have hP : pairs ls (k + 1) = pairs ls k ++ [nthL ls x ++ nthL ls y] := by rw [hy, hx]; rfl
      obtain ⟨l1, hl1⟩ : ∃ l1, l1 = nthL ls x := ⟨_, rfl⟩
      obtain ⟨l2, hl2⟩ : ∃ l2, l2 = nthL ls y := ⟨_, rfl⟩
      rw [← hl1] at e1 hc1 hd1 hP
      rw [← hl2] at e2 hc2 hd2 hP
      obtain ⟨n1, hn1⟩ : ∃ n1, l1.length = n1 := ⟨_, rfl⟩
      obtain ⟨n2, hn2⟩ : ∃ n2, l2.length = n2 := ⟨_, rfl⟩
      rw [hn1] at e1 hc1
      rw [hn2] at e2 hc2
      have HL1 := Lib.hid hn1; have HL2 := Lib.hid hn2; have HP := Lib.hid hP
      have f1 := (HB.cell (p := ⟨gl, og + x, none⟩) hgl).trans e1
      have f2 := (HB.cell (p := ⟨gl, og + y, none⟩) hgl).trans e2
      clear hel hl1 hl2 hn1 hn2 hP hx hy hn
      by_cases q1 : 200 < n1
      · have g1 : (200 : Int) < (n1 : Int) := by omega
        go_wp2_with fail
        go_ret
        exact ⟨rfl, HB⟩
      · have g1 : ¬ (200 : Int) < (n1 : Int) := by omega
        by_cases q2 : 200 < n2
        · have g2 : (200 : Int) < (n2 : Int) := by omega
          go_wp2_with fail
          go_ret
          exact ⟨rfl, HB⟩
        · have g2 : ¬ (200 : Int) < (n2 : Int) := by omega
          have hb1 : Bs w (.slice A1 n1 c1) l1 := Bs.of' HL1.out hc1 (by omega) hd1
          have hb2 : Bs w (.slice A2 n2 c2) l2 := Bs.of' HL2.out hc2 (by omega) hd2
          have hl12 : (l1 ++ l2).length = n1 + n2 := by rw [List.length_append, HL1.out, HL2.out]
          obtain ⟨n12, hn12⟩ : ∃ n12, n12 = n1 + n2 := ⟨_, rfl⟩
          rw [← hn12] at hl12
          have HL12 := Lib.hid hl12
          obtain ⟨D, hD⟩ : ∃ D, D = shaB (l1 ++ l2) := ⟨_, rfl⟩
          have hDl : D.length = 32 := by rw [hD, shaB_length]
          have hfl : [l1, l2].flatten = l1 ++ l2 := by simp
          have k6 : k ≤ 6 := by have := HX.out; omega
          have m1 := fun v vs (W : World) q1 q2 q3 q4 q5 => sumQ_any g bs n kp v vs (pairs ls k) [l1, l2] W q1 q2 q3 (by rw [hpl]; omega) q4 (by rw [hfl, hl12]; omega) q5 (by have := HN.out; omega) (by have := HN.out; omega)
          have m2 := fun v vb (W : World) q1 q2 q3 q4 => lsumQ_any r bs n kp v vb (pairs ls k) (l1 ++ l2) W q1 q2 hrb q3 (by rw [hpl]; omega) q4 (by rw [hl12]; omega) (by have := HN.out; omega) (by have := HN.out; omega)
          unfold SumQ at m1
          unfold LSumQ at m2
          rw [hfl, ← hD] at m1
          rw [← hD] at m2
          rw [← HP.out] at m1 m2
          have M := Lib.hid m1; have ML := Lib.hid m2
          have hb12 : n12 ≤ 400 := by omega
          clear m1 m2 hD hfl hl12 hn12 hd1 hd2
          go_wp2_with fail
          have BX : Below (wr).heap.size (wr) (wr).drew := (by repeat (first | with_reducible exact Below.refl _ _ | with_reducible assumption | refine Below.drew ?_ | refine below_drewN ?_ | refine Below.alloc ?_ (by first | omega | (simp; done) | (simp; omega)) _ | refine below_setRow ?_ (by omega) _ | refine Below.setCell ?_ (by first | omega | (simp; done) | (simp; omega)) _))
          replace hm := RowIs.step hm BX
          replace om := om.step BX
          replace hR := hR.step BX
          replace ol := ol.step BX
          replace hbz := Nat.le_trans hbz BX.size
          replace HB := HB.trans (BX.mono HB.size)
          refine wp_region_lexF [] [4, 9] 12 _ (BelS w) rfl (by kernel_rfl) (by decide +kernel) (show BelS w _ from HB) (fun _ => ?_)
          clear BX
          generalize (wr).drew = d1 at hm om hR ol hbz HB  ⊢
          have BX := Below.refl d1.heap.size d1
          (go_wp2_with (first | (refine wpLexF_here rfl ?_) | (refine wpLexF_pure0 (by decide) rfl (fun KP hKP => ?_); go_simp; (try go_bits); refine hKP _ _ ?_) | (refine wpLexF_pure (by decide) rfl (fun KP hKP => ?_); go_simp; refine ⟨_, fun w9 hw9 => (by have s1 := ((show Below w.heap.size w w9 from hw9).cell (p := ⟨gl, og + x, none⟩) hgl).trans e1; have s2 := ((show Below w.heap.size w w9 from hw9).cell (p := ⟨gl, og + y, none⟩) hgl).trans e2; go_simp; rfl), ?_⟩; refine hKP _ _ ?_)))
          refine wpLexF_loud (by decide) rfl (fun KL hKL => ?_) (fun KL hKL => ?_)
          · skip
            go_wp2_with fail
            have HBW := HB.trans (BX.mono HB.size)
            have LL := BsL.lit2 (gg := d1.heap.size) 27 rfl (hb1.step HBW) (hb2.step HBW)
            have hq : Below d1.heap.size d1 (d1.alloc (.cells #[.slice A1 n1 c1, .slice A2 n2 c2] 27)) := (by repeat (first | with_reducible exact Below.refl _ _ | with_reducible assumption | refine Below.drew ?_ | refine below_drewN ?_ | refine Below.alloc ?_ (by first | omega | (simp; done) | (simp; omega)) _ | refine below_setRow ?_ (by omega) _ | refine Below.setCell ?_ (by first | omega | (simp; done) | (simp; omega)) _))
            replace BX := BX.trans (hq.mono BX.size)
            clear hq
            generalize (d1.alloc (.cells #[.slice A1 n1 c1, .slice A2 n2 c2] 27)) = x2 at BX LL ⊢
            obtain ⟨l3, hl_⟩ : ∃ k, k = d1.heap.size := ⟨_, rfl⟩
            rw [← hl_] at LL ⊢
            clear hl_ HBW
            refine hKL _ _ (show BelS w _ from HB.trans (BX.mono HB.size)) (fun _ => ?_)
            clear KL hKL
            (go_wp2_with (first | (refine wpLexF_here rfl ?_) | (refine wpLexF_pure0 (by decide) rfl (fun KP hKP => ?_); go_simp; (try go_bits); refine hKP _ _ ?_) | (refine wpLexF_pure (by decide) rfl (fun KP hKP => ?_); go_simp; refine ⟨_, fun w9 hw9 => (by have s1 := ((show Below w.heap.size w w9 from hw9).cell (p := ⟨gl, og + x, none⟩) hgl).trans e1; have s2 := ((show Below w.heap.size w w9 from hw9).cell (p := ⟨gl, og + y, none⟩) hgl).trans e2; go_simp; rfl), ?_⟩; refine hKP _ _ ?_)))
            refine wpLexF_loud (by decide) rfl (fun KL hKL => ?_) (fun KL hKL => ?_)
            · skip
              go_wp2_with fail
              replace hm := RowIs.step hm BX
              replace om := om.step BX
              replace hR := hR.step BX
              replace ol := ol.step BX
              skip
              replace hbz := Nat.le_trans hbz BX.size
              replace HB := HB.trans (BX.mono HB.size)
              have he := he0.step HB
              refine (M.out _ _ _ hm om hbz LL he).mono ?_
              rintro e s4 ⟨rfl, ⟨vm', hm', om', kk, ob⟩, ks, ko⟩
              replace hR := ks.row r _ hR (by omega) (by simp [isSl])
              have hap' : ∀ b, vl.ownBlock = some b → vm'.ownBlock ≠ some b ∧ b ≠ g := fun b hb => ⟨fun e => by
                rcases ob b e with h | h
                · exact (hap b hb).1 h
                · have := (ol.lt hb).2; omega, (hap b hb).2⟩
              replace ol := ko.own ol hap
              replace HB := HB.trans (ks.below _ hwb hwg)
              replace hbz := Nat.le_trans hbz ks.size
              replace hm := hm'; replace om := om'; replace hap := hap'
              replace BX := Below.refl s4.heap.size s4
              clear hm' om' hap' kk ob ks ko LL he
              go_wp2_with fail
              refine hKL _ _ (show BelS w _ from HB) (fun _ => ?_)
              clear KL hKL
              (go_wp2_with (first | (refine wpLexF_here rfl ?_) | (refine wpLexF_pure0 (by decide) rfl (fun KP hKP => ?_); go_simp; (try go_bits); refine hKP _ _ ?_) | (refine wpLexF_pure (by decide) rfl (fun KP hKP => ?_); go_simp; refine ⟨_, fun w9 hw9 => (by have s1 := ((show Below w.heap.size w w9 from hw9).cell (p := ⟨gl, og + x, none⟩) hgl).trans e1; have s2 := ((show Below w.heap.size w w9 from hw9).cell (p := ⟨gl, og + y, none⟩) hgl).trans e2; go_simp; rfl), ?_⟩; refine hKP _ _ ?_)))
              (go_wp2_with (first | (refine wpLexD_skip rfl ?_) | (refine wpLexD_pure0 (by decide) rfl (fun KP hKP => ?_); go_simp; (try go_bits); refine hKP _ _ ?_) | (refine wpLexD_pure (by decide) rfl (fun KP hKP => ?_); go_simp; refine ⟨_, fun w9 hw9 => (by have s1 := ((show Below w.heap.size w w9 from hw9).cell (p := ⟨gl, og + x, none⟩) hgl).trans e1; have s2 := ((show Below w.heap.size w w9 from hw9).cell (p := ⟨gl, og + y, none⟩) hgl).trans e2; go_simp; rfl), ?_⟩; refine hKP _ _ ?_) | (refine wpLexD_loud (by decide) rfl (fun KL hKL => ?_)) | (refine wpLexS_pure0 rfl (fun KP hKP => ?_); go_simp; (try go_bits); refine hKP _ _ ?_) | (refine wpLexS_pure rfl (fun KP hKP => ?_); go_simp; refine ⟨_, fun w9 hw9 => (by have s1 := ((show Below w.heap.size w w9 from hw9).cell (p := ⟨gl, og + x, none⟩) hgl).trans e1; have s2 := ((show Below w.heap.size w w9 from hw9).cell (p := ⟨gl, og + y, none⟩) hgl).trans e2; go_simp; rfl), ?_⟩; refine hKP _ _ ?_) | (refine wpLexS_loud rfl (fun KL hKL => ?_))))
              have QZ : RowIs (s4.alloc (.cells (u8s (zeros 32)) 33)) s4.heap.size (u8s (zeros 32)) := RowIs.new _ _ _
              have hxs : s4.heap.size ≤ s4.heap.size := BX.size
              have hq : Below s4.heap.size s4 (s4.alloc (.cells (u8s (zeros 32)) 33)) := (by repeat (first | with_reducible exact Below.refl _ _ | with_reducible assumption | refine Below.drew ?_ | refine below_drewN ?_ | refine Below.alloc ?_ (by first | omega | (simp; done) | (simp; omega)) _ | refine below_setRow ?_ (by omega) _ | refine Below.setCell ?_ (by first | omega | (simp; done) | (simp; omega)) _))
              replace BX := BX.trans (hq.mono BX.size)
              clear hq
              generalize (s4.alloc (.cells (u8s (zeros 32)) 33)) = x5 at BX QZ ⊢
              obtain ⟨r6, hr_⟩ : ∃ k, k = s4.heap.size := ⟨_, rfl⟩
              have hxr : s4.heap.size ≤ r6 := by rw [hr_]; exact hxs
              have hbr : bs ≤ r6 := Nat.le_trans hbz hxr
              rw [← hr_] at QZ  ⊢
              clear hr_ hxs
              refine hKL _ _ (show BelS w _ from HB.trans (BX.mono HB.size)) (fun _ => ?_)
              clear KL hKL
              have kpm := (Kept.of om hxr).step BX
              have kpl := (Kept.of ol hxr).step BX
              replace hm := RowIs.step hm BX
              replace om := om.step BX
              replace hR := hR.step BX
              replace ol := ol.step BX
              replace hbz := Nat.le_trans hbz BX.size
              replace HB := HB.trans (BX.mono HB.size)
              have hst := mstore x5 r6 (u8s D) (by rw [QZ.has, u8s_size, zeros_length]) (by rw [u8s_size, hDl]) (u8s_one D)
              have nm := om.ne_row QZ (key_no (zeros_length 32))
              have nl := ol.ne_row QZ (key_no (zeros_length 32))
              (go_wp2_with (first | (refine wpLexD_skip rfl ?_) | (refine wpLexD_pure0 (by decide) rfl (fun KP hKP => ?_); go_simp; (try go_bits); refine hKP _ _ ?_) | (refine wpLexD_pure (by decide) rfl (fun KP hKP => ?_); go_simp; refine ⟨_, fun w9 hw9 => (by have s1 := ((show Below w.heap.size w w9 from hw9).cell (p := ⟨gl, og + x, none⟩) hgl).trans e1; have s2 := ((show Below w.heap.size w w9 from hw9).cell (p := ⟨gl, og + y, none⟩) hgl).trans e2; go_simp; rfl), ?_⟩; refine hKP _ _ ?_) | (refine wpLexD_loud (by decide) rfl (fun KL hKL => ?_)) | (refine wpLexS_pure0 rfl (fun KP hKP => ?_); go_simp; (try go_bits); refine hKP _ _ ?_) | (refine wpLexS_pure rfl (fun KP hKP => ?_); go_simp; refine ⟨_, fun w9 hw9 => (by have s1 := ((show Below w.heap.size w w9 from hw9).cell (p := ⟨gl, og + x, none⟩) hgl).trans e1; have s2 := ((show Below w.heap.size w w9 from hw9).cell (p := ⟨gl, og + y, none⟩) hgl).trans e2; go_simp; rfl), ?_⟩; refine hKP _ _ ?_) | (refine wpLexS_loud rfl (fun KL hKL => ?_))))
              have Q1 := QZ.set (u8s D)
              replace hm := RowIs.set_ne hm (show g ≠ r6 by omega) (u8s D)
              replace hR := hR.set_ne (show r ≠ r6 by omega) (u8s D)
              replace om := kpm.setRow nm (u8s D)
              replace ol := kpl.setRow nl (u8s D)
              replace HB : Below w.heap.size w (x5.setRow r6 (u8s D)) := below_setRow HB (by omega) _
              replace hbz : bs ≤ (x5.setRow r6 (u8s D)).heap.size := by simpa [World.setRow] using hbz
              refine hKL _ _ (show BelS w _ from HB) (fun _ => ?_)
              clear KL hKL hst QZ nm nl kpm kpl BX hxr
              generalize (x5.setRow r6 (u8s D)) = e7 at hm om hR ol HB hbz Q1  ⊢
              go_wp2_with (refine wpLexS_nil ?_)
              have BX : Below (e7).heap.size (e7) (e7).drew := (by repeat (first | with_reducible exact Below.refl _ _ | with_reducible assumption | refine Below.drew ?_ | refine below_drewN ?_ | refine Below.alloc ?_ (by first | omega | (simp; done) | (simp; omega)) _ | refine below_setRow ?_ (by omega) _ | refine Below.setCell ?_ (by first | omega | (simp; done) | (simp; omega)) _))
              replace hm := RowIs.step hm BX
              replace om := om.step BX
              replace hR := hR.step BX
              replace ol := ol.step BX
              replace hbz := Nat.le_trans hbz BX.size
              replace HB := HB.trans (BX.mono HB.size)
              replace Q1 := Q1.step BX
              refine wp_region_lexF [] [5, 11] 14 _ (BelS w) rfl (by kernel_rfl) (by decide +kernel) (show BelS w _ from HB) (fun _ => ?_)
              clear BX
              generalize (e7).drew = d8 at hm om hR ol hbz HB Q1 ⊢
              have BX := Below.refl d8.heap.size d8
              (go_wp2_with (first | (refine wpLexF_here rfl ?_) | (refine wpLexF_pure0 (by decide) rfl (fun KP hKP => ?_); go_simp; (try go_bits); refine hKP _ _ ?_) | (refine wpLexF_pure (by decide) rfl (fun KP hKP => ?_); go_simp; refine ⟨_, fun w9 hw9 => (by have s1 := ((show Below w.heap.size w w9 from hw9).cell (p := ⟨gl, og + x, none⟩) hgl).trans e1; have s2 := ((show Below w.heap.size w w9 from hw9).cell (p := ⟨gl, og + y, none⟩) hgl).trans e2; go_simp; rfl), ?_⟩; refine hKP _ _ ?_)))
              refine wpLexF_loud (by decide) rfl (fun KL hKL => ?_) (fun KL hKL => ?_)
              · skip
                go_wp2_with fail
                obtain ⟨b9, hb8⟩ : ∃ k, k = d8.heap.size := ⟨_, rfl⟩
                have own8 := Own8.empty (T := 5) (g := b9) d8 (base := d8.heap.size) hb8 BX.size
                have hq : Below d8.heap.size d8 (d8.alloc (.cells #[] 5)) := (by repeat (first | with_reducible exact Below.refl _ _ | with_reducible assumption | refine Below.drew ?_ | refine below_drewN ?_ | refine Below.alloc ?_ (by first | omega | (simp; done) | (simp; omega)) _ | refine below_setRow ?_ (by omega) _ | refine Below.setCell ?_ (by first | omega | (simp; done) | (simp; omega)) _))
                replace BX := BX.trans (hq.mono BX.size)
                clear hq
                generalize (d8.alloc (.cells #[] 5)) = x10 at BX own8 ⊢
                rw [← hb8]
                clear hb8
                refine hKL _ _ (show BelS w _ from HB.trans (BX.mono HB.size)) (fun _ => ?_)
                clear KL hKL
                (go_wp2_with (first | (refine wpLexF_here rfl ?_) | (refine wpLexF_pure0 (by decide) rfl (fun KP hKP => ?_); go_simp; (try go_bits); refine hKP _ _ ?_) | (refine wpLexF_pure (by decide) rfl (fun KP hKP => ?_); go_simp; refine ⟨_, fun w9 hw9 => (by have s1 := ((show Below w.heap.size w w9 from hw9).cell (p := ⟨gl, og + x, none⟩) hgl).trans e1; have s2 := ((show Below w.heap.size w w9 from hw9).cell (p := ⟨gl, og + y, none⟩) hgl).trans e2; go_simp; rfl), ?_⟩; refine hKP _ _ ?_)))
                refine wpLexF_loud (by decide) rfl (fun KL hKL => ?_) (fun KL hKL => ?_)
                · skip
                  have hbW := hb1.step (HB.trans (BX.mono HB.size))
                  refine wpList_appendBsX Tryd.underlying27 Tryd.info8 rfl (.tmp 71) (.tmp 75) rfl d8.heap.size rfl own8 rfl hbW (List.nil_append _) HL1.out (by omega) BX.size ?_
                  intro A811 c812 x13 own9 gr9 ob9
                  have bel9 := below_append (Below.refl d8.heap.size x10) own8 gr9 (Nat.le_refl _) BX.size
                  replace BX := BX.trans bel9
                  replace own8 := own9
                  clear own9 gr9 ob9 bel9 hbW
                  go_wp2_with fail
                  refine hKL _ _ (show BelS w _ from HB.trans (BX.mono HB.size)) (fun _ => ?_)
                  clear KL hKL
                  (go_wp2_with (first | (refine wpLexF_here rfl ?_) | (refine wpLexF_pure0 (by decide) rfl (fun KP hKP => ?_); go_simp; (try go_bits); refine hKP _ _ ?_) | (refine wpLexF_pure (by decide) rfl (fun KP hKP => ?_); go_simp; refine ⟨_, fun w9 hw9 => (by have s1 := ((show Below w.heap.size w w9 from hw9).cell (p := ⟨gl, og + x, none⟩) hgl).trans e1; have s2 := ((show Below w.heap.size w w9 from hw9).cell (p := ⟨gl, og + y, none⟩) hgl).trans e2; go_simp; rfl), ?_⟩; refine hKP _ _ ?_)))
                  refine wpLexF_loud (by decide) rfl (fun KL hKL => ?_) (fun KL hKL => ?_)
                  · skip
                    have hbW := hb2.step (HB.trans (BX.mono HB.size))
                    refine wpList_appendBsX Tryd.underlying27 Tryd.info8 rfl (.tmp 76) (.tmp 81) rfl d8.heap.size rfl own8 rfl hbW (rfl) HL12.out (by omega) BX.size ?_
                    intro A814 c815 x16 own9 gr9 ob9
                    have bel9 := below_append (Below.refl d8.heap.size x13) own8 gr9 (Nat.le_refl _) BX.size
                    replace BX := BX.trans bel9
                    replace own8 := own9
                    clear own9 gr9 ob9 bel9 hbW
                    go_wp2_with fail
                    refine hKL _ _ (show BelS w _ from HB.trans (BX.mono HB.size)) (fun _ => ?_)
                    clear KL hKL
                    (go_wp2_with (first | (refine wpLexF_here rfl ?_) | (refine wpLexF_pure0 (by decide) rfl (fun KP hKP => ?_); go_simp; (try go_bits); refine hKP _ _ ?_) | (refine wpLexF_pure (by decide) rfl (fun KP hKP => ?_); go_simp; refine ⟨_, fun w9 hw9 => (by have s1 := ((show Below w.heap.size w w9 from hw9).cell (p := ⟨gl, og + x, none⟩) hgl).trans e1; have s2 := ((show Below w.heap.size w w9 from hw9).cell (p := ⟨gl, og + y, none⟩) hgl).trans e2; go_simp; rfl), ?_⟩; refine hKP _ _ ?_)))
                    refine wpLexF_loud (by decide) rfl (fun KL hKL => ?_) (fun KL hKL => ?_)
                    · skip
                      go_wp2_with fail
                      replace hm := RowIs.step hm BX
                      replace om := om.step BX
                      replace hR := hR.step BX
                      replace ol := ol.step BX
                      replace Q1 := Q1.step BX
                      replace hbz := Nat.le_trans hbz BX.size
                      replace HB := HB.trans (BX.mono HB.size)
                      have he := he0.step HB
                      have hv8 := own8.bsN HL12.out (by omega)
                      have hnn := log_no8 hR ol
                      have hne : vm'.ownBlock ≠ some r := fun e => by have := (om.lt e).1; omega
                      refine (ML.out _ _ _ hR ol hbz hv8).mono ?_
                      rintro e s17 ⟨rfl, ⟨vl', hR', ol', kk, ob⟩, hu⟩
                      replace Q1 := Q1.upd hu (show r6 ≠ r by omega)
                      have hap' : ∀ b, vl'.ownBlock = some b → vm'.ownBlock ≠ some b ∧ b ≠ g := fun b hb => by
                        rcases ob b hb with h | h
                        · exact hap b h
                        · exact ⟨fun e => by have := (om.lt e).2; omega, by omega⟩
                      replace hm := RowIs.upd hm hu (show g ≠ r by omega)
                      replace om := om.upd hu hnn hne
                      replace HB := hu.below HB hwr HB.size
                      replace hbz := Nat.le_trans hbz hu.size
                      replace hR := hR'; replace ol := ol'; replace hap := hap'
                      replace BX := Below.refl s17.heap.size s17
                      clear hR' ol' hap' kk ob hu own8 hv8 hnn hne he
                      go_wp2_with fail
                      refine hKL _ _ (show BelS w _ from HB) (fun _ => ?_)
                      clear KL hKL
                      (go_wp2_with (first | (refine wpLexF_here rfl ?_) | (refine wpLexF_pure0 (by decide) rfl (fun KP hKP => ?_); go_simp; (try go_bits); refine hKP _ _ ?_) | (refine wpLexF_pure (by decide) rfl (fun KP hKP => ?_); go_simp; refine ⟨_, fun w9 hw9 => (by have s1 := ((show Below w.heap.size w w9 from hw9).cell (p := ⟨gl, og + x, none⟩) hgl).trans e1; have s2 := ((show Below w.heap.size w w9 from hw9).cell (p := ⟨gl, og + y, none⟩) hgl).trans e2; go_simp; rfl), ?_⟩; refine hKP _ _ ?_)))
                      (go_wp2_with (first | (refine wpLexD_skip rfl ?_) | (refine wpLexD_pure0 (by decide) rfl (fun KP hKP => ?_); go_simp; (try go_bits); refine hKP _ _ ?_) | (refine wpLexD_pure (by decide) rfl (fun KP hKP => ?_); go_simp; refine ⟨_, fun w9 hw9 => (by have s1 := ((show Below w.heap.size w w9 from hw9).cell (p := ⟨gl, og + x, none⟩) hgl).trans e1; have s2 := ((show Below w.heap.size w w9 from hw9).cell (p := ⟨gl, og + y, none⟩) hgl).trans e2; go_simp; rfl), ?_⟩; refine hKP _ _ ?_) | (refine wpLexD_loud (by decide) rfl (fun KL hKL => ?_)) | (refine wpLexS_pure0 rfl (fun KP hKP => ?_); go_simp; (try go_bits); refine hKP _ _ ?_) | (refine wpLexS_pure rfl (fun KP hKP => ?_); go_simp; refine ⟨_, fun w9 hw9 => (by have s1 := ((show Below w.heap.size w w9 from hw9).cell (p := ⟨gl, og + x, none⟩) hgl).trans e1; have s2 := ((show Below w.heap.size w w9 from hw9).cell (p := ⟨gl, og + y, none⟩) hgl).trans e2; go_simp; rfl), ?_⟩; refine hKP _ _ ?_) | (refine wpLexS_loud rfl (fun KL hKL => ?_))))
                      have QZ : RowIs (s17.alloc (.cells (u8s (zeros 32)) 33)) s17.heap.size (u8s (zeros 32)) := RowIs.new _ _ _
                      have hxs : s17.heap.size ≤ s17.heap.size := BX.size
                      have hq : Below s17.heap.size s17 (s17.alloc (.cells (u8s (zeros 32)) 33)) := (by repeat (first | with_reducible exact Below.refl _ _ | with_reducible assumption | refine Below.drew ?_ | refine below_drewN ?_ | refine Below.alloc ?_ (by first | omega | (simp; done) | (simp; omega)) _ | refine below_setRow ?_ (by omega) _ | refine Below.setCell ?_ (by first | omega | (simp; done) | (simp; omega)) _))
                      replace BX := BX.trans (hq.mono BX.size)
                      clear hq
                      generalize (s17.alloc (.cells (u8s (zeros 32)) 33)) = x18 at BX QZ ⊢
                      obtain ⟨r19, hr_⟩ : ∃ k, k = s17.heap.size := ⟨_, rfl⟩
                      have hxr : s17.heap.size ≤ r19 := by rw [hr_]; exact hxs
                      have hbr : bs ≤ r19 := Nat.le_trans hbz hxr
                      have hq1 := Nat.lt_of_lt_of_le (RowIs.lt Q1) hxr
                      rw [← hr_] at QZ  ⊢
                      clear hr_ hxs
                      refine hKL _ _ (show BelS w _ from HB.trans (BX.mono HB.size)) (fun _ => ?_)
                      clear KL hKL
                      have kpm := (Kept.of om hxr).step BX
                      have kpl := (Kept.of ol hxr).step BX
                      replace hm := RowIs.step hm BX
                      replace om := om.step BX
                      replace hR := hR.step BX
                      replace ol := ol.step BX
                      replace hbz := Nat.le_trans hbz BX.size
                      replace HB := HB.trans (BX.mono HB.size)
                      replace Q1 := Q1.step BX
                      have hst := mstore x18 r19 (u8s D) (by rw [QZ.has, u8s_size, zeros_length]) (by rw [u8s_size, hDl]) (u8s_one D)
                      have nm := om.ne_row QZ (key_no (zeros_length 32))
                      have nl := ol.ne_row QZ (key_no (zeros_length 32))
                      (go_wp2_with (first | (refine wpLexD_skip rfl ?_) | (refine wpLexD_pure0 (by decide) rfl (fun KP hKP => ?_); go_simp; (try go_bits); refine hKP _ _ ?_) | (refine wpLexD_pure (by decide) rfl (fun KP hKP => ?_); go_simp; refine ⟨_, fun w9 hw9 => (by have s1 := ((show Below w.heap.size w w9 from hw9).cell (p := ⟨gl, og + x, none⟩) hgl).trans e1; have s2 := ((show Below w.heap.size w w9 from hw9).cell (p := ⟨gl, og + y, none⟩) hgl).trans e2; go_simp; rfl), ?_⟩; refine hKP _ _ ?_) | (refine wpLexD_loud (by decide) rfl (fun KL hKL => ?_)) | (refine wpLexS_pure0 rfl (fun KP hKP => ?_); go_simp; (try go_bits); refine hKP _ _ ?_) | (refine wpLexS_pure rfl (fun KP hKP => ?_); go_simp; refine ⟨_, fun w9 hw9 => (by have s1 := ((show Below w.heap.size w w9 from hw9).cell (p := ⟨gl, og + x, none⟩) hgl).trans e1; have s2 := ((show Below w.heap.size w w9 from hw9).cell (p := ⟨gl, og + y, none⟩) hgl).trans e2; go_simp; rfl), ?_⟩; refine hKP _ _ ?_) | (refine wpLexS_loud rfl (fun KL hKL => ?_))))
                      have Q2 := QZ.set (u8s D)
                      replace hm := RowIs.set_ne hm (show g ≠ r19 by omega) (u8s D)
                      replace hR := hR.set_ne (show r ≠ r19 by omega) (u8s D)
                      replace om := kpm.setRow nm (u8s D)
                      replace ol := kpl.setRow nl (u8s D)
                      replace HB : Below w.heap.size w (x18.setRow r19 (u8s D)) := below_setRow HB (by omega) _
                      replace hbz : bs ≤ (x18.setRow r19 (u8s D)).heap.size := by simpa [World.setRow] using hbz
                      replace Q1 := Q1.set_ne (show r6 ≠ r19 by omega) (u8s D)
                      refine hKL _ _ (show BelS w _ from HB) (fun _ => ?_)
                      clear KL hKL hst QZ nm nl kpm kpl BX hxr
                      generalize (x18.setRow r19 (u8s D)) = e20 at hm om hR ol HB hbz Q2 Q1 ⊢
                      have L1 := sload Q1 hDl
                      have L2 := sload Q2 hDl
                      go_wp2_with (refine wpLexS_nil ?_)
                      exact ⟨⟨k + 1, n + 1, _, _, by have := HX.out; go_num, by have := HN.out; omega, by have := HY.out; have := HX.out; omega, hm, om, hR, ol, hap, HB, hbz, fun u hu => by
                        rw [HP.out, List.mem_append, List.mem_singleton] at hu
                        rcases hu with h | h
                        · exact hall u h
                        · rw [h, HL12.out]; exact hb12⟩, by simp [intOf]; omega⟩
                    · skip
                      go_wp2_with fail
                      have hro : ∀ k, (Value.slice A814 n12 c815).ownBlock = some k → k ≠ x16.heap.size := fun k hk => by have := (own8lt own8 hk).2; omega
                      have QZ : RowIs (x16.alloc (.cells (u8s (zeros 32)) 33)) x16.heap.size (u8s (zeros 32)) := RowIs.new _ _ _
                      have hxs : d8.heap.size ≤ x16.heap.size := BX.size
                      have hq : Below x16.heap.size x16 (x16.alloc (.cells (u8s (zeros 32)) 33)) := (by repeat (first | with_reducible exact Below.refl _ _ | with_reducible assumption | refine Below.drew ?_ | refine below_drewN ?_ | refine Below.alloc ?_ (by first | omega | (simp; done) | (simp; omega)) _ | refine below_setRow ?_ (by omega) _ | refine Below.setCell ?_ (by first | omega | (simp; done) | (simp; omega)) _))
                      replace own8 := own8.step hq
                      replace BX := BX.trans (hq.mono BX.size)
                      clear hq
                      generalize (x16.alloc (.cells (u8s (zeros 32)) 33)) = x21 at BX own8 QZ ⊢
                      obtain ⟨r22, hr_⟩ : ∃ k, k = x16.heap.size := ⟨_, rfl⟩
                      have hxr : d8.heap.size ≤ r22 := by rw [hr_]; exact hxs
                      have hbr : bs ≤ r22 := Nat.le_trans hbz hxr
                      have hq1 := Nat.lt_of_lt_of_le (RowIs.lt Q1) hxr
                      rw [← hr_] at QZ hro ⊢
                      clear hr_ hxs
                      refine hKL _ _ (show BelS w _ from HB.trans (BX.mono HB.size)) (fun _ => ?_)
                      clear KL hKL
                      (go_wp2_with (first | (refine wpLexD_skip rfl ?_) | (refine wpLexD_pure0 (by decide) rfl (fun KP hKP => ?_); go_simp; (try go_bits); refine hKP _ _ ?_) | (refine wpLexD_pure (by decide) rfl (fun KP hKP => ?_); go_simp; refine ⟨_, fun w9 hw9 => (by have s1 := ((show Below w.heap.size w w9 from hw9).cell (p := ⟨gl, og + x, none⟩) hgl).trans e1; have s2 := ((show Below w.heap.size w w9 from hw9).cell (p := ⟨gl, og + y, none⟩) hgl).trans e2; go_simp; rfl), ?_⟩; refine hKP _ _ ?_)))
                      refine wpLexD_loud (by decide) rfl (fun KL hKL => ?_)
                      go_wp2_with fail
                      have kpm := (Kept.of om hxr).step BX
                      have kpl := (Kept.of ol hxr).step BX
                      replace hm := RowIs.step hm BX
                      replace om := om.step BX
                      replace hR := hR.step BX
                      replace ol := ol.step BX
                      replace Q1 := Q1.step BX
                      replace hbz := Nat.le_trans hbz BX.size
                      replace HB := HB.trans (BX.mono HB.size)
                      have he := he0.step HB
                      have hv8 := own8.bsN HL12.out (by omega)
                      have hnn := log_no8 hR ol
                      have hne : vm'.ownBlock ≠ some r := fun e => by have := (om.lt e).1; omega
                      refine (ML.out _ _ _ hR ol hbz hv8).mono ?_
                      rintro e s23 ⟨rfl, ⟨vl', hR', ol', kk, ob⟩, hu⟩
                      replace kpl := kk r22 (RowIs.lt QZ) kpl
                      replace kpm := kpm.upd hu hnn hne
                      replace QZ := QZ.upd hu (show r22 ≠ r by omega)
                      replace Q1 := Q1.upd hu (show r6 ≠ r by omega)
                      have hap' : ∀ b, vl'.ownBlock = some b → vm'.ownBlock ≠ some b ∧ b ≠ g := fun b hb => by
                        rcases ob b hb with h | h
                        · exact hap b h
                        · exact ⟨fun e => by have := (om.lt e).2; omega, by omega⟩
                      replace hm := RowIs.upd hm hu (show g ≠ r by omega)
                      replace om := om.upd hu hnn hne
                      replace HB := hu.below HB hwr HB.size
                      replace hbz := Nat.le_trans hbz hu.size
                      replace hR := hR'; replace ol := ol'; replace hap := hap'
                      replace BX := Below.refl s23.heap.size s23
                      clear hR' ol' hap' kk ob hu own8 hv8 hnn hne he
                      go_wp2_with fail
                      refine hKL _ _ (show BelS w _ from HB) (fun _ => ?_)
                      clear KL hKL
                      replace hm := RowIs.step hm BX
                      replace om := om.step BX
                      replace hR := hR.step BX
                      replace ol := ol.step BX
                      replace hbz := Nat.le_trans hbz BX.size
                      replace HB := HB.trans (BX.mono HB.size)
                      replace Q1 := Q1.step BX
                      have hst := mstore s23 r22 (u8s D) (by rw [QZ.has, u8s_size, zeros_length]) (by rw [u8s_size, hDl]) (u8s_one D)
                      have nm := om.ne_row QZ (key_no (zeros_length 32))
                      have nl := ol.ne_row QZ (key_no (zeros_length 32))
                      (go_wp2_with (first | (refine wpLexD_skip rfl ?_) | (refine wpLexD_pure0 (by decide) rfl (fun KP hKP => ?_); go_simp; (try go_bits); refine hKP _ _ ?_) | (refine wpLexD_pure (by decide) rfl (fun KP hKP => ?_); go_simp; refine ⟨_, fun w9 hw9 => (by have s1 := ((show Below w.heap.size w w9 from hw9).cell (p := ⟨gl, og + x, none⟩) hgl).trans e1; have s2 := ((show Below w.heap.size w w9 from hw9).cell (p := ⟨gl, og + y, none⟩) hgl).trans e2; go_simp; rfl), ?_⟩; refine hKP _ _ ?_) | (refine wpLexD_loud (by decide) rfl (fun KL hKL => ?_)) | (refine wpLexS_pure0 rfl (fun KP hKP => ?_); go_simp; (try go_bits); refine hKP _ _ ?_) | (refine wpLexS_pure rfl (fun KP hKP => ?_); go_simp; refine ⟨_, fun w9 hw9 => (by have s1 := ((show Below w.heap.size w w9 from hw9).cell (p := ⟨gl, og + x, none⟩) hgl).trans e1; have s2 := ((show Below w.heap.size w w9 from hw9).cell (p := ⟨gl, og + y, none⟩) hgl).trans e2; go_simp; rfl), ?_⟩; refine hKP _ _ ?_) | (refine wpLexS_loud rfl (fun KL hKL => ?_))))
                      have Q2 := QZ.set (u8s D)
                      replace hm := RowIs.set_ne hm (show g ≠ r22 by omega) (u8s D)
                      replace hR := hR.set_ne (show r ≠ r22 by omega) (u8s D)
                      replace om := kpm.setRow nm (u8s D)
                      replace ol := kpl.setRow nl (u8s D)
                      replace HB : Below w.heap.size w (s23.setRow r22 (u8s D)) := below_setRow HB (by omega) _
                      replace hbz : bs ≤ (s23.setRow r22 (u8s D)).heap.size := by simpa [World.setRow] using hbz
                      replace Q1 := Q1.set_ne (show r6 ≠ r22 by omega) (u8s D)
                      refine hKL _ _ (show BelS w _ from HB) (fun _ => ?_)
                      clear KL hKL hst QZ nm nl kpm kpl BX hxr
                      generalize (s23.setRow r22 (u8s D)) = e24 at hm om hR ol HB hbz Q2 Q1 ⊢
                      have L1 := sload Q1 hDl
                      have L2 := sload Q2 hDl
                      go_wp2_with (refine wpLexS_nil ?_)
                      exact ⟨⟨k + 1, n + 1, _, _, by have := HX.out; go_num, by have := HN.out; omega, by have := HY.out; have := HX.out; omega, hm, om, hR, ol, hap, HB, hbz, fun u hu => by
                        rw [HP.out, List.mem_append, List.mem_singleton] at hu
                        rcases hu with h | h
                        · exact hall u h
                        · rw [h, HL12.out]; exact hb12⟩, by simp [intOf]; omega⟩
                  · skip
                    go_wp2_with fail
                    have hro : ∀ k, (Value.slice A811 n1 c812).ownBlock = some k → k ≠ x13.heap.size := fun k hk => by have := (own8lt own8 hk).2; omega
                    have QZ : RowIs (x13.alloc (.cells (u8s (zeros 32)) 33)) x13.heap.size (u8s (zeros 32)) := RowIs.new _ _ _
                    have hxs : d8.heap.size ≤ x13.heap.size := BX.size
                    have hq : Below x13.heap.size x13 (x13.alloc (.cells (u8s (zeros 32)) 33)) := (by repeat (first | with_reducible exact Below.refl _ _ | with_reducible assumption | refine Below.drew ?_ | refine below_drewN ?_ | refine Below.alloc ?_ (by first | omega | (simp; done) | (simp; omega)) _ | refine below_setRow ?_ (by omega) _ | refine Below.setCell ?_ (by first | omega | (simp; done) | (simp; omega)) _))
                    replace own8 := own8.step hq
                    replace BX := BX.trans (hq.mono BX.size)
                    clear hq
                    generalize (x13.alloc (.cells (u8s (zeros 32)) 33)) = x25 at BX own8 QZ ⊢
                    obtain ⟨r26, hr_⟩ : ∃ k, k = x13.heap.size := ⟨_, rfl⟩
                    have hxr : d8.heap.size ≤ r26 := by rw [hr_]; exact hxs
                    have hbr : bs ≤ r26 := Nat.le_trans hbz hxr
                    have hq1 := Nat.lt_of_lt_of_le (RowIs.lt Q1) hxr
                    rw [← hr_] at QZ hro ⊢
                    clear hr_ hxs
                    refine hKL _ _ (show BelS w _ from HB.trans (BX.mono HB.size)) (fun _ => ?_)
                    clear KL hKL
                    (go_wp2_with (first | (refine wpLexD_skip rfl ?_) | (refine wpLexD_pure0 (by decide) rfl (fun KP hKP => ?_); go_simp; (try go_bits); refine hKP _ _ ?_) | (refine wpLexD_pure (by decide) rfl (fun KP hKP => ?_); go_simp; refine ⟨_, fun w9 hw9 => (by have s1 := ((show Below w.heap.size w w9 from hw9).cell (p := ⟨gl, og + x, none⟩) hgl).trans e1; have s2 := ((show Below w.heap.size w w9 from hw9).cell (p := ⟨gl, og + y, none⟩) hgl).trans e2; go_simp; rfl), ?_⟩; refine hKP _ _ ?_)))
                    refine wpLexD_loud (by decide) rfl (fun KL hKL => ?_)
                    have hbW := hb2.step (HB.trans (BX.mono HB.size))
                    refine wpList_appendBsX Tryd.underlying27 Tryd.info8 rfl (.tmp 76) (.tmp 81) rfl d8.heap.size rfl own8 rfl hbW (rfl) HL12.out (by omega) BX.size ?_
                    intro A827 c828 x29 own9 gr9 ob9
                    have hqlt := RowIs.lt QZ
                    replace QZ := QZ.grown gr9 (fun e => hro _ e rfl)
                    replace hro : ∀ k, (Value.slice A827 n12 c828).ownBlock = some k → k ≠ r26 := fun k hk => by
                      rcases ob9 k hk with h | h
                      · exact hro k h
                      · omega
                    clear hqlt
                    have bel9 := below_append (Below.refl d8.heap.size x25) own8 gr9 (Nat.le_refl _) BX.size
                    replace BX := BX.trans bel9
                    replace own8 := own9
                    clear own9 gr9 ob9 bel9 hbW
                    go_wp2_with fail
                    refine hKL _ _ (show BelS w _ from HB.trans (BX.mono HB.size)) (fun _ => ?_)
                    clear KL hKL
                    (go_wp2_with (first | (refine wpLexD_skip rfl ?_) | (refine wpLexD_pure0 (by decide) rfl (fun KP hKP => ?_); go_simp; (try go_bits); refine hKP _ _ ?_) | (refine wpLexD_pure (by decide) rfl (fun KP hKP => ?_); go_simp; refine ⟨_, fun w9 hw9 => (by have s1 := ((show Below w.heap.size w w9 from hw9).cell (p := ⟨gl, og + x, none⟩) hgl).trans e1; have s2 := ((show Below w.heap.size w w9 from hw9).cell (p := ⟨gl, og + y, none⟩) hgl).trans e2; go_simp; rfl), ?_⟩; refine hKP _ _ ?_)))
                    refine wpLexD_loud (by decide) rfl (fun KL hKL => ?_)
                    go_wp2_with fail
                    have kpm := (Kept.of om hxr).step BX
                    have kpl := (Kept.of ol hxr).step BX
                    replace hm := RowIs.step hm BX
                    replace om := om.step BX
                    replace hR := hR.step BX
                    replace ol := ol.step BX
                    replace Q1 := Q1.step BX
                    replace hbz := Nat.le_trans hbz BX.size
                    replace HB := HB.trans (BX.mono HB.size)
                    have he := he0.step HB
                    have hv8 := own8.bsN HL12.out (by omega)
                    have hnn := log_no8 hR ol
                    have hne : vm'.ownBlock ≠ some r := fun e => by have := (om.lt e).1; omega
                    refine (ML.out _ _ _ hR ol hbz hv8).mono ?_
                    rintro e s30 ⟨rfl, ⟨vl', hR', ol', kk, ob⟩, hu⟩
                    replace kpl := kk r26 (RowIs.lt QZ) kpl
                    replace kpm := kpm.upd hu hnn hne
                    replace QZ := QZ.upd hu (show r26 ≠ r by omega)
                    replace Q1 := Q1.upd hu (show r6 ≠ r by omega)
                    have hap' : ∀ b, vl'.ownBlock = some b → vm'.ownBlock ≠ some b ∧ b ≠ g := fun b hb => by
                      rcases ob b hb with h | h
                      · exact hap b h
                      · exact ⟨fun e => by have := (om.lt e).2; omega, by omega⟩
                    replace hm := RowIs.upd hm hu (show g ≠ r by omega)
                    replace om := om.upd hu hnn hne
                    replace HB := hu.below HB hwr HB.size
                    replace hbz := Nat.le_trans hbz hu.size
                    replace hR := hR'; replace ol := ol'; replace hap := hap'
                    replace BX := Below.refl s30.heap.size s30
                    clear hR' ol' hap' kk ob hu own8 hv8 hnn hne he
                    go_wp2_with fail
                    refine hKL _ _ (show BelS w _ from HB) (fun _ => ?_)
                    clear KL hKL
                    replace hm := RowIs.step hm BX
                    replace om := om.step BX
                    replace hR := hR.step BX
                    replace ol := ol.step BX
                    replace hbz := Nat.le_trans hbz BX.size
                    replace HB := HB.trans (BX.mono HB.size)
                    replace Q1 := Q1.step BX
                    have hst := mstore s30 r26 (u8s D) (by rw [QZ.has, u8s_size, zeros_length]) (by rw [u8s_size, hDl]) (u8s_one D)
                    have nm := om.ne_row QZ (key_no (zeros_length 32))
                    have nl := ol.ne_row QZ (key_no (zeros_length 32))
                    (go_wp2_with (first | (refine wpLexD_skip rfl ?_) | (refine wpLexD_pure0 (by decide) rfl (fun KP hKP => ?_); go_simp; (try go_bits); refine hKP _ _ ?_) | (refine wpLexD_pure (by decide) rfl (fun KP hKP => ?_); go_simp; refine ⟨_, fun w9 hw9 => (by have s1 := ((show Below w.heap.size w w9 from hw9).cell (p := ⟨gl, og + x, none⟩) hgl).trans e1; have s2 := ((show Below w.heap.size w w9 from hw9).cell (p := ⟨gl, og + y, none⟩) hgl).trans e2; go_simp; rfl), ?_⟩; refine hKP _ _ ?_) | (refine wpLexD_loud (by decide) rfl (fun KL hKL => ?_)) | (refine wpLexS_pure0 rfl (fun KP hKP => ?_); go_simp; (try go_bits); refine hKP _ _ ?_) | (refine wpLexS_pure rfl (fun KP hKP => ?_); go_simp; refine ⟨_, fun w9 hw9 => (by have s1 := ((show Below w.heap.size w w9 from hw9).cell (p := ⟨gl, og + x, none⟩) hgl).trans e1; have s2 := ((show Below w.heap.size w w9 from hw9).cell (p := ⟨gl, og + y, none⟩) hgl).trans e2; go_simp; rfl), ?_⟩; refine hKP _ _ ?_) | (refine wpLexS_loud rfl (fun KL hKL => ?_))))
                    have Q2 := QZ.set (u8s D)
                    replace hm := RowIs.set_ne hm (show g ≠ r26 by omega) (u8s D)
                    replace hR := hR.set_ne (show r ≠ r26 by omega) (u8s D)
                    replace om := kpm.setRow nm (u8s D)
                    replace ol := kpl.setRow nl (u8s D)
                    replace HB : Below w.heap.size w (s30.setRow r26 (u8s D)) := below_setRow HB (by omega) _
                    replace hbz : bs ≤ (s30.setRow r26 (u8s D)).heap.size := by simpa [World.setRow] using hbz
                    replace Q1 := Q1.set_ne (show r6 ≠ r26 by omega) (u8s D)
                    refine hKL _ _ (show BelS w _ from HB) (fun _ => ?_)
                    clear KL hKL hst QZ nm nl kpm kpl BX hxr
                    generalize (s30.setRow r26 (u8s D)) = e31 at hm om hR ol HB hbz Q2 Q1 ⊢
                    have L1 := sload Q1 hDl
                    have L2 := sload Q2 hDl
                    go_wp2_with (refine wpLexS_nil ?_)
                    exact ⟨⟨k + 1, n + 1, _, _, by have := HX.out; go_num, by have := HN.out; omega, by have := HY.out; have := HX.out; omega, hm, om, hR, ol, hap, HB, hbz, fun u hu => by
                      rw [HP.out, List.mem_append, List.mem_singleton] at hu
                      rcases hu with h | h
                      · exact hall u h
                      · rw [h, HL12.out]; exact hb12⟩, by simp [intOf]; omega⟩
                · skip
                  go_wp2_with fail
                  have hro : ∀ k, (Value.slice (some ⟨b9, 0, none⟩) 0 0).ownBlock = some k → k ≠ x10.heap.size := fun k hk => by have := (own8lt own8 hk).2; omega
                  have QZ : RowIs (x10.alloc (.cells (u8s (zeros 32)) 33)) x10.heap.size (u8s (zeros 32)) := RowIs.new _ _ _
                  have hxs : d8.heap.size ≤ x10.heap.size := BX.size
                  have hq : Below x10.heap.size x10 (x10.alloc (.cells (u8s (zeros 32)) 33)) := (by repeat (first | with_reducible exact Below.refl _ _ | with_reducible assumption | refine Below.drew ?_ | refine below_drewN ?_ | refine Below.alloc ?_ (by first | omega | (simp; done) | (simp; omega)) _ | refine below_setRow ?_ (by omega) _ | refine Below.setCell ?_ (by first | omega | (simp; done) | (simp; omega)) _))
                  replace own8 := own8.step hq
                  replace BX := BX.trans (hq.mono BX.size)
                  clear hq
                  generalize (x10.alloc (.cells (u8s (zeros 32)) 33)) = x32 at BX own8 QZ ⊢
                  obtain ⟨r33, hr_⟩ : ∃ k, k = x10.heap.size := ⟨_, rfl⟩
                  have hxr : d8.heap.size ≤ r33 := by rw [hr_]; exact hxs
                  have hbr : bs ≤ r33 := Nat.le_trans hbz hxr
                  have hq1 := Nat.lt_of_lt_of_le (RowIs.lt Q1) hxr
                  rw [← hr_] at QZ hro ⊢
                  clear hr_ hxs
                  refine hKL _ _ (show BelS w _ from HB.trans (BX.mono HB.size)) (fun _ => ?_)
                  clear KL hKL
                  (go_wp2_with (first | (refine wpLexD_skip rfl ?_) | (refine wpLexD_pure0 (by decide) rfl (fun KP hKP => ?_); go_simp; (try go_bits); refine hKP _ _ ?_) | (refine wpLexD_pure (by decide) rfl (fun KP hKP => ?_); go_simp; refine ⟨_, fun w9 hw9 => (by have s1 := ((show Below w.heap.size w w9 from hw9).cell (p := ⟨gl, og + x, none⟩) hgl).trans e1; have s2 := ((show Below w.heap.size w w9 from hw9).cell (p := ⟨gl, og + y, none⟩) hgl).trans e2; go_simp; rfl), ?_⟩; refine hKP _ _ ?_)))
                  refine wpLexD_loud (by decide) rfl (fun KL hKL => ?_)
                  have hbW := hb1.step (HB.trans (BX.mono HB.size))
                  refine wpList_appendBsX Tryd.underlying27 Tryd.info8 rfl (.tmp 71) (.tmp 75) rfl d8.heap.size rfl own8 rfl hbW (List.nil_append _) HL1.out (by omega) BX.size ?_
                  intro A834 c835 x36 own9 gr9 ob9
                  have hqlt := RowIs.lt QZ
                  replace QZ := QZ.grown gr9 (fun e => hro _ e rfl)
                  replace hro : ∀ k, (Value.slice A834 n1 c835).ownBlock = some k → k ≠ r33 := fun k hk => by
                    rcases ob9 k hk with h | h
                    · exact hro k h
                    · omega
                  clear hqlt
                  have bel9 := below_append (Below.refl d8.heap.size x32) own8 gr9 (Nat.le_refl _) BX.size
                  replace BX := BX.trans bel9
                  replace own8 := own9
                  clear own9 gr9 ob9 bel9 hbW
                  go_wp2_with fail
                  refine hKL _ _ (show BelS w _ from HB.trans (BX.mono HB.size)) (fun _ => ?_)
                  clear KL hKL
                  (go_wp2_with (first | (refine wpLexD_skip rfl ?_) | (refine wpLexD_pure0 (by decide) rfl (fun KP hKP => ?_); go_simp; (try go_bits); refine hKP _ _ ?_) | (refine wpLexD_pure (by decide) rfl (fun KP hKP => ?_); go_simp; refine ⟨_, fun w9 hw9 => (by have s1 := ((show Below w.heap.size w w9 from hw9).cell (p := ⟨gl, og + x, none⟩) hgl).trans e1; have s2 := ((show Below w.heap.size w w9 from hw9).cell (p := ⟨gl, og + y, none⟩) hgl).trans e2; go_simp; rfl), ?_⟩; refine hKP _ _ ?_)))
                  refine wpLexD_loud (by decide) rfl (fun KL hKL => ?_)
                  have hbW := hb2.step (HB.trans (BX.mono HB.size))
                  refine wpList_appendBsX Tryd.underlying27 Tryd.info8 rfl (.tmp 76) (.tmp 81) rfl d8.heap.size rfl own8 rfl hbW (rfl) HL12.out (by omega) BX.size ?_
                  intro A837 c838 x39 own9 gr9 ob9
                  have hqlt := RowIs.lt QZ
                  replace QZ := QZ.grown gr9 (fun e => hro _ e rfl)
                  replace hro : ∀ k, (Value.slice A837 n12 c838).ownBlock = some k → k ≠ r33 := fun k hk => by
                    rcases ob9 k hk with h | h
                    · exact hro k h
                    · omega
                  clear hqlt
                  have bel9 := below_append (Below.refl d8.heap.size x36) own8 gr9 (Nat.le_refl _) BX.size
                  replace BX := BX.trans bel9
                  replace own8 := own9
                  clear own9 gr9 ob9 bel9 hbW
                  go_wp2_with fail
                  refine hKL _ _ (show BelS w _ from HB.trans (BX.mono HB.size)) (fun _ => ?_)
                  clear KL hKL
                  (go_wp2_with (first | (refine wpLexD_skip rfl ?_) | (refine wpLexD_pure0 (by decide) rfl (fun KP hKP => ?_); go_simp; (try go_bits); refine hKP _ _ ?_) | (refine wpLexD_pure (by decide) rfl (fun KP hKP => ?_); go_simp; refine ⟨_, fun w9 hw9 => (by have s1 := ((show Below w.heap.size w w9 from hw9).cell (p := ⟨gl, og + x, none⟩) hgl).trans e1; have s2 := ((show Below w.heap.size w w9 from hw9).cell (p := ⟨gl, og + y, none⟩) hgl).trans e2; go_simp; rfl), ?_⟩; refine hKP _ _ ?_)))
                  refine wpLexD_loud (by decide) rfl (fun KL hKL => ?_)
                  go_wp2_with fail
                  have kpm := (Kept.of om hxr).step BX
                  have kpl := (Kept.of ol hxr).step BX
                  replace hm := RowIs.step hm BX
                  replace om := om.step BX
                  replace hR := hR.step BX
                  replace ol := ol.step BX
                  replace Q1 := Q1.step BX
                  replace hbz := Nat.le_trans hbz BX.size
                  replace HB := HB.trans (BX.mono HB.size)
                  have he := he0.step HB
                  have hv8 := own8.bsN HL12.out (by omega)
                  have hnn := log_no8 hR ol
                  have hne : vm'.ownBlock ≠ some r := fun e => by have := (om.lt e).1; omega
                  refine (ML.out _ _ _ hR ol hbz hv8).mono ?_
                  rintro e s40 ⟨rfl, ⟨vl', hR', ol', kk, ob⟩, hu⟩
                  replace kpl := kk r33 (RowIs.lt QZ) kpl
                  replace kpm := kpm.upd hu hnn hne
                  replace QZ := QZ.upd hu (show r33 ≠ r by omega)
                  replace Q1 := Q1.upd hu (show r6 ≠ r by omega)
                  have hap' : ∀ b, vl'.ownBlock = some b → vm'.ownBlock ≠ some b ∧ b ≠ g := fun b hb => by
                    rcases ob b hb with h | h
                    · exact hap b h
                    · exact ⟨fun e => by have := (om.lt e).2; omega, by omega⟩
                  replace hm := RowIs.upd hm hu (show g ≠ r by omega)
                  replace om := om.upd hu hnn hne
                  replace HB := hu.below HB hwr HB.size
                  replace hbz := Nat.le_trans hbz hu.size
                  replace hR := hR'; replace ol := ol'; replace hap := hap'
                  replace BX := Below.refl s40.heap.size s40
                  clear hR' ol' hap' kk ob hu own8 hv8 hnn hne he
                  go_wp2_with fail
                  refine hKL _ _ (show BelS w _ from HB) (fun _ => ?_)
                  clear KL hKL
                  replace hm := RowIs.step hm BX
                  replace om := om.step BX
                  replace hR := hR.step BX
                  replace ol := ol.step BX
                  replace hbz := Nat.le_trans hbz BX.size
                  replace HB := HB.trans (BX.mono HB.size)
                  replace Q1 := Q1.step BX
                  have hst := mstore s40 r33 (u8s D) (by rw [QZ.has, u8s_size, zeros_length]) (by rw [u8s_size, hDl]) (u8s_one D)
                  have nm := om.ne_row QZ (key_no (zeros_length 32))
                  have nl := ol.ne_row QZ (key_no (zeros_length 32))
                  (go_wp2_with (first | (refine wpLexD_skip rfl ?_) | (refine wpLexD_pure0 (by decide) rfl (fun KP hKP => ?_); go_simp; (try go_bits); refine hKP _ _ ?_) | (refine wpLexD_pure (by decide) rfl (fun KP hKP => ?_); go_simp; refine ⟨_, fun w9 hw9 => (by have s1 := ((show Below w.heap.size w w9 from hw9).cell (p := ⟨gl, og + x, none⟩) hgl).trans e1; have s2 := ((show Below w.heap.size w w9 from hw9).cell (p := ⟨gl, og + y, none⟩) hgl).trans e2; go_simp; rfl), ?_⟩; refine hKP _ _ ?_) | (refine wpLexD_loud (by decide) rfl (fun KL hKL => ?_)) | (refine wpLexS_pure0 rfl (fun KP hKP => ?_); go_simp; (try go_bits); refine hKP _ _ ?_) | (refine wpLexS_pure rfl (fun KP hKP => ?_); go_simp; refine ⟨_, fun w9 hw9 => (by have s1 := ((show Below w.heap.size w w9 from hw9).cell (p := ⟨gl, og + x, none⟩) hgl).trans e1; have s2 := ((show Below w.heap.size w w9 from hw9).cell (p := ⟨gl, og + y, none⟩) hgl).trans e2; go_simp; rfl), ?_⟩; refine hKP _ _ ?_) | (refine wpLexS_loud rfl (fun KL hKL => ?_))))
                  have Q2 := QZ.set (u8s D)
                  replace hm := RowIs.set_ne hm (show g ≠ r33 by omega) (u8s D)
                  replace hR := hR.set_ne (show r ≠ r33 by omega) (u8s D)
                  replace om := kpm.setRow nm (u8s D)
                  replace ol := kpl.setRow nl (u8s D)
                  replace HB : Below w.heap.size w (s40.setRow r33 (u8s D)) := below_setRow HB (by omega) _
                  replace hbz : bs ≤ (s40.setRow r33 (u8s D)).heap.size := by simpa [World.setRow] using hbz
                  replace Q1 := Q1.set_ne (show r6 ≠ r33 by omega) (u8s D)
                  refine hKL _ _ (show BelS w _ from HB) (fun _ => ?_)
                  clear KL hKL hst QZ nm nl kpm kpl BX hxr
                  generalize (s40.setRow r33 (u8s D)) = e41 at hm om hR ol HB hbz Q2 Q1 ⊢
                  have L1 := sload Q1 hDl
                  have L2 := sload Q2 hDl
                  go_wp2_with (refine wpLexS_nil ?_)
                  exact ⟨⟨k + 1, n + 1, _, _, by have := HX.out; go_num, by have := HN.out; omega, by have := HY.out; have := HX.out; omega, hm, om, hR, ol, hap, HB, hbz, fun u hu => by
                    rw [HP.out, List.mem_append, List.mem_singleton] at hu
                    rcases hu with h | h
                    · exact hall u h
                    · rw [h, HL12.out]; exact hb12⟩, by simp [intOf]; omega⟩
              · skip
                go_wp2_with fail
                have QZ : RowIs (d8.alloc (.cells (u8s (zeros 32)) 33)) d8.heap.size (u8s (zeros 32)) := RowIs.new _ _ _
                have hxs : d8.heap.size ≤ d8.heap.size := BX.size
                have hq : Below d8.heap.size d8 (d8.alloc (.cells (u8s (zeros 32)) 33)) := (by repeat (first | with_reducible exact Below.refl _ _ | with_reducible assumption | refine Below.drew ?_ | refine below_drewN ?_ | refine Below.alloc ?_ (by first | omega | (simp; done) | (simp; omega)) _ | refine below_setRow ?_ (by omega) _ | refine Below.setCell ?_ (by first | omega | (simp; done) | (simp; omega)) _))
                replace BX := BX.trans (hq.mono BX.size)
                clear hq
                generalize (d8.alloc (.cells (u8s (zeros 32)) 33)) = x42 at BX QZ ⊢
                obtain ⟨r43, hr_⟩ : ∃ k, k = d8.heap.size := ⟨_, rfl⟩
                have hxr : d8.heap.size ≤ r43 := by rw [hr_]; exact hxs
                have hbr : bs ≤ r43 := Nat.le_trans hbz hxr
                have hq1 := Nat.lt_of_lt_of_le (RowIs.lt Q1) hxr
                rw [← hr_] at QZ  ⊢
                clear hr_ hxs
                refine hKL _ _ (show BelS w _ from HB.trans (BX.mono HB.size)) (fun _ => ?_)
                clear KL hKL
                (go_wp2_with (first | (refine wpLexD_skip rfl ?_) | (refine wpLexD_pure0 (by decide) rfl (fun KP hKP => ?_); go_simp; (try go_bits); refine hKP _ _ ?_) | (refine wpLexD_pure (by decide) rfl (fun KP hKP => ?_); go_simp; refine ⟨_, fun w9 hw9 => (by have s1 := ((show Below w.heap.size w w9 from hw9).cell (p := ⟨gl, og + x, none⟩) hgl).trans e1; have s2 := ((show Below w.heap.size w w9 from hw9).cell (p := ⟨gl, og + y, none⟩) hgl).trans e2; go_simp; rfl), ?_⟩; refine hKP _ _ ?_)))
                refine wpLexD_loud (by decide) rfl (fun KL hKL => ?_)
                go_wp2_with fail
                obtain ⟨b44, hb8⟩ : ∃ k, k = x42.heap.size := ⟨_, rfl⟩
                have own8 := Own8.empty (T := 5) (g := b44) x42 (base := d8.heap.size) hb8 BX.size
                have hro : ∀ k, (Value.slice (some ⟨b44, 0, none⟩) 0 0).ownBlock = some k → k ≠ r43 := fun k hk => by have h1 : b44 = k := Option.some.inj hk; have h2 := RowIs.lt QZ; omega
                have hq : Below x42.heap.size x42 (x42.alloc (.cells #[] 5)) := (by repeat (first | with_reducible exact Below.refl _ _ | with_reducible assumption | refine Below.drew ?_ | refine below_drewN ?_ | refine Below.alloc ?_ (by first | omega | (simp; done) | (simp; omega)) _ | refine below_setRow ?_ (by omega) _ | refine Below.setCell ?_ (by first | omega | (simp; done) | (simp; omega)) _))
                replace QZ := QZ.step hq
                replace BX := BX.trans (hq.mono BX.size)
                clear hq
                generalize (x42.alloc (.cells #[] 5)) = x45 at BX QZ own8 ⊢
                rw [← hb8]
                clear hb8
                refine hKL _ _ (show BelS w _ from HB.trans (BX.mono HB.size)) (fun _ => ?_)
                clear KL hKL
                (go_wp2_with (first | (refine wpLexD_skip rfl ?_) | (refine wpLexD_pure0 (by decide) rfl (fun KP hKP => ?_); go_simp; (try go_bits); refine hKP _ _ ?_) | (refine wpLexD_pure (by decide) rfl (fun KP hKP => ?_); go_simp; refine ⟨_, fun w9 hw9 => (by have s1 := ((show Below w.heap.size w w9 from hw9).cell (p := ⟨gl, og + x, none⟩) hgl).trans e1; have s2 := ((show Below w.heap.size w w9 from hw9).cell (p := ⟨gl, og + y, none⟩) hgl).trans e2; go_simp; rfl), ?_⟩; refine hKP _ _ ?_)))
                refine wpLexD_loud (by decide) rfl (fun KL hKL => ?_)
                have hbW := hb1.step (HB.trans (BX.mono HB.size))
                refine wpList_appendBsX Tryd.underlying27 Tryd.info8 rfl (.tmp 71) (.tmp 75) rfl d8.heap.size rfl own8 rfl hbW (List.nil_append _) HL1.out (by omega) BX.size ?_
                intro A846 c847 x48 own9 gr9 ob9
                have hqlt := RowIs.lt QZ
                replace QZ := QZ.grown gr9 (fun e => hro _ e rfl)
                replace hro : ∀ k, (Value.slice A846 n1 c847).ownBlock = some k → k ≠ r43 := fun k hk => by
                  rcases ob9 k hk with h | h
                  · exact hro k h
                  · omega
                clear hqlt
                have bel9 := below_append (Below.refl d8.heap.size x45) own8 gr9 (Nat.le_refl _) BX.size
                replace BX := BX.trans bel9
                replace own8 := own9
                clear own9 gr9 ob9 bel9 hbW
                go_wp2_with fail
                refine hKL _ _ (show BelS w _ from HB.trans (BX.mono HB.size)) (fun _ => ?_)
                clear KL hKL
                (go_wp2_with (first | (refine wpLexD_skip rfl ?_) | (refine wpLexD_pure0 (by decide) rfl (fun KP hKP => ?_); go_simp; (try go_bits); refine hKP _ _ ?_) | (refine wpLexD_pure (by decide) rfl (fun KP hKP => ?_); go_simp; refine ⟨_, fun w9 hw9 => (by have s1 := ((show Below w.heap.size w w9 from hw9).cell (p := ⟨gl, og + x, none⟩) hgl).trans e1; have s2 := ((show Below w.heap.size w w9 from hw9).cell (p := ⟨gl, og + y, none⟩) hgl).trans e2; go_simp; rfl), ?_⟩; refine hKP _ _ ?_)))
                refine wpLexD_loud (by decide) rfl (fun KL hKL => ?_)
                have hbW := hb2.step (HB.trans (BX.mono HB.size))
                refine wpList_appendBsX Tryd.underlying27 Tryd.info8 rfl (.tmp 76) (.tmp 81) rfl d8.heap.size rfl own8 rfl hbW (rfl) HL12.out (by omega) BX.size ?_
                intro A849 c850 x51 own9 gr9 ob9
                have hqlt := RowIs.lt QZ
                replace QZ := QZ.grown gr9 (fun e => hro _ e rfl)
                replace hro : ∀ k, (Value.slice A849 n12 c850).ownBlock = some k → k ≠ r43 := fun k hk => by
                  rcases ob9 k hk with h | h
                  · exact hro k h
                  · omega
                clear hqlt
                have bel9 := below_append (Below.refl d8.heap.size x48) own8 gr9 (Nat.le_refl _) BX.size
                replace BX := BX.trans bel9
                replace own8 := own9
                clear own9 gr9 ob9 bel9 hbW
                go_wp2_with fail
                refine hKL _ _ (show BelS w _ from HB.trans (BX.mono HB.size)) (fun _ => ?_)
                clear KL hKL
                (go_wp2_with (first | (refine wpLexD_skip rfl ?_) | (refine wpLexD_pure0 (by decide) rfl (fun KP hKP => ?_); go_simp; (try go_bits); refine hKP _ _ ?_) | (refine wpLexD_pure (by decide) rfl (fun KP hKP => ?_); go_simp; refine ⟨_, fun w9 hw9 => (by have s1 := ((show Below w.heap.size w w9 from hw9).cell (p := ⟨gl, og + x, none⟩) hgl).trans e1; have s2 := ((show Below w.heap.size w w9 from hw9).cell (p := ⟨gl, og + y, none⟩) hgl).trans e2; go_simp; rfl), ?_⟩; refine hKP _ _ ?_)))
                refine wpLexD_loud (by decide) rfl (fun KL hKL => ?_)
                go_wp2_with fail
                have kpm := (Kept.of om hxr).step BX
                have kpl := (Kept.of ol hxr).step BX
                replace hm := RowIs.step hm BX
                replace om := om.step BX
                replace hR := hR.step BX
                replace ol := ol.step BX
                replace Q1 := Q1.step BX
                replace hbz := Nat.le_trans hbz BX.size
                replace HB := HB.trans (BX.mono HB.size)
                have he := he0.step HB
                have hv8 := own8.bsN HL12.out (by omega)
                have hnn := log_no8 hR ol
                have hne : vm'.ownBlock ≠ some r := fun e => by have := (om.lt e).1; omega
                refine (ML.out _ _ _ hR ol hbz hv8).mono ?_
                rintro e s52 ⟨rfl, ⟨vl', hR', ol', kk, ob⟩, hu⟩
                replace kpl := kk r43 (RowIs.lt QZ) kpl
                replace kpm := kpm.upd hu hnn hne
                replace QZ := QZ.upd hu (show r43 ≠ r by omega)
                replace Q1 := Q1.upd hu (show r6 ≠ r by omega)
                have hap' : ∀ b, vl'.ownBlock = some b → vm'.ownBlock ≠ some b ∧ b ≠ g := fun b hb => by
                  rcases ob b hb with h | h
                  · exact hap b h
                  · exact ⟨fun e => by have := (om.lt e).2; omega, by omega⟩
                replace hm := RowIs.upd hm hu (show g ≠ r by omega)
                replace om := om.upd hu hnn hne
                replace HB := hu.below HB hwr HB.size
                replace hbz := Nat.le_trans hbz hu.size
                replace hR := hR'; replace ol := ol'; replace hap := hap'
                replace BX := Below.refl s52.heap.size s52
                clear hR' ol' hap' kk ob hu own8 hv8 hnn hne he
                go_wp2_with fail
                refine hKL _ _ (show BelS w _ from HB) (fun _ => ?_)
                clear KL hKL
                replace hm := RowIs.step hm BX
                replace om := om.step BX
                replace hR := hR.step BX
                replace ol := ol.step BX
                replace hbz := Nat.le_trans hbz BX.size
                replace HB := HB.trans (BX.mono HB.size)
                replace Q1 := Q1.step BX
                have hst := mstore s52 r43 (u8s D) (by rw [QZ.has, u8s_size, zeros_length]) (by rw [u8s_size, hDl]) (u8s_one D)
                have nm := om.ne_row QZ (key_no (zeros_length 32))
                have nl := ol.ne_row QZ (key_no (zeros_length 32))
                (go_wp2_with (first | (refine wpLexD_skip rfl ?_) | (refine wpLexD_pure0 (by decide) rfl (fun KP hKP => ?_); go_simp; (try go_bits); refine hKP _ _ ?_) | (refine wpLexD_pure (by decide) rfl (fun KP hKP => ?_); go_simp; refine ⟨_, fun w9 hw9 => (by have s1 := ((show Below w.heap.size w w9 from hw9).cell (p := ⟨gl, og + x, none⟩) hgl).trans e1; have s2 := ((show Below w.heap.size w w9 from hw9).cell (p := ⟨gl, og + y, none⟩) hgl).trans e2; go_simp; rfl), ?_⟩; refine hKP _ _ ?_) | (refine wpLexD_loud (by decide) rfl (fun KL hKL => ?_)) | (refine wpLexS_pure0 rfl (fun KP hKP => ?_); go_simp; (try go_bits); refine hKP _ _ ?_) | (refine wpLexS_pure rfl (fun KP hKP => ?_); go_simp; refine ⟨_, fun w9 hw9 => (by have s1 := ((show Below w.heap.size w w9 from hw9).cell (p := ⟨gl, og + x, none⟩) hgl).trans e1; have s2 := ((show Below w.heap.size w w9 from hw9).cell (p := ⟨gl, og + y, none⟩) hgl).trans e2; go_simp; rfl), ?_⟩; refine hKP _ _ ?_) | (refine wpLexS_loud rfl (fun KL hKL => ?_))))
                have Q2 := QZ.set (u8s D)
                replace hm := RowIs.set_ne hm (show g ≠ r43 by omega) (u8s D)
                replace hR := hR.set_ne (show r ≠ r43 by omega) (u8s D)
                replace om := kpm.setRow nm (u8s D)
                replace ol := kpl.setRow nl (u8s D)
                replace HB : Below w.heap.size w (s52.setRow r43 (u8s D)) := below_setRow HB (by omega) _
                replace hbz : bs ≤ (s52.setRow r43 (u8s D)).heap.size := by simpa [World.setRow] using hbz
                replace Q1 := Q1.set_ne (show r6 ≠ r43 by omega) (u8s D)
                refine hKL _ _ (show BelS w _ from HB) (fun _ => ?_)
                clear KL hKL hst QZ nm nl kpm kpl BX hxr
                generalize (s52.setRow r43 (u8s D)) = e53 at hm om hR ol HB hbz Q2 Q1 ⊢
                have L1 := sload Q1 hDl
                have L2 := sload Q2 hDl
                go_wp2_with (refine wpLexS_nil ?_)
                exact ⟨⟨k + 1, n + 1, _, _, by have := HX.out; go_num, by have := HN.out; omega, by have := HY.out; have := HX.out; omega, hm, om, hR, ol, hap, HB, hbz, fun u hu => by
                  rw [HP.out, List.mem_append, List.mem_singleton] at hu
                  rcases hu with h | h
                  · exact hall u h
                  · rw [h, HL12.out]; exact hb12⟩, by simp [intOf]; omega⟩
            · skip
              go_wp2_with fail
              have QZ : RowIs (x2.alloc (.cells (u8s (zeros 32)) 33)) x2.heap.size (u8s (zeros 32)) := RowIs.new _ _ _
              have hxs : d1.heap.size ≤ x2.heap.size := BX.size
              have hq : Below x2.heap.size x2 (x2.alloc (.cells (u8s (zeros 32)) 33)) := (by repeat (first | with_reducible exact Below.refl _ _ | with_reducible assumption | refine Below.drew ?_ | refine below_drewN ?_ | refine Below.alloc ?_ (by first | omega | (simp; done) | (simp; omega)) _ | refine below_setRow ?_ (by omega) _ | refine Below.setCell ?_ (by first | omega | (simp; done) | (simp; omega)) _))
              replace LL := LL.step hq
              replace BX := BX.trans (hq.mono BX.size)
              clear hq
              generalize (x2.alloc (.cells (u8s (zeros 32)) 33)) = x54 at BX LL QZ ⊢
              obtain ⟨r55, hr_⟩ : ∃ k, k = x2.heap.size := ⟨_, rfl⟩
              have hxr : d1.heap.size ≤ r55 := by rw [hr_]; exact hxs
              have hbr : bs ≤ r55 := Nat.le_trans hbz hxr
              rw [← hr_] at QZ  ⊢
              clear hr_ hxs
              refine hKL _ _ (show BelS w _ from HB.trans (BX.mono HB.size)) (fun _ => ?_)
              clear KL hKL
              (go_wp2_with (first | (refine wpLexD_skip rfl ?_) | (refine wpLexD_pure0 (by decide) rfl (fun KP hKP => ?_); go_simp; (try go_bits); refine hKP _ _ ?_) | (refine wpLexD_pure (by decide) rfl (fun KP hKP => ?_); go_simp; refine ⟨_, fun w9 hw9 => (by have s1 := ((show Below w.heap.size w w9 from hw9).cell (p := ⟨gl, og + x, none⟩) hgl).trans e1; have s2 := ((show Below w.heap.size w w9 from hw9).cell (p := ⟨gl, og + y, none⟩) hgl).trans e2; go_simp; rfl), ?_⟩; refine hKP _ _ ?_)))
              refine wpLexD_loud (by decide) rfl (fun KL hKL => ?_)
              go_wp2_with fail
              have kpm := (Kept.of om hxr).step BX
              have kpl := (Kept.of ol hxr).step BX
              replace hm := RowIs.step hm BX
              replace om := om.step BX
              replace hR := hR.step BX
              replace ol := ol.step BX
              skip
              replace hbz := Nat.le_trans hbz BX.size
              replace HB := HB.trans (BX.mono HB.size)
              have he := he0.step HB
              refine (M.out _ _ _ hm om hbz LL he).mono ?_
              rintro e s56 ⟨rfl, ⟨vm', hm', om', kk, ob⟩, ks, ko⟩
              replace hR := ks.row r _ hR (by omega) (by simp [isSl])
              replace kpm := kk r55 (RowIs.lt QZ) kpm
              replace kpl := ko r55 _ _ _ kpl hap
              replace QZ := ks.row r55 _ QZ (by omega) (key_no (zeros_length 32))
              have hap' : ∀ b, vl.ownBlock = some b → vm'.ownBlock ≠ some b ∧ b ≠ g := fun b hb => ⟨fun e => by
                rcases ob b e with h | h
                · exact (hap b hb).1 h
                · have := (ol.lt hb).2; omega, (hap b hb).2⟩
              replace ol := ko.own ol hap
              replace HB := HB.trans (ks.below _ hwb hwg)
              replace hbz := Nat.le_trans hbz ks.size
              replace hm := hm'; replace om := om'; replace hap := hap'
              replace BX := Below.refl s56.heap.size s56
              clear hm' om' hap' kk ob ks ko LL he
              go_wp2_with fail
              refine hKL _ _ (show BelS w _ from HB) (fun _ => ?_)
              clear KL hKL
              replace hm := RowIs.step hm BX
              replace om := om.step BX
              replace hR := hR.step BX
              replace ol := ol.step BX
              replace hbz := Nat.le_trans hbz BX.size
              replace HB := HB.trans (BX.mono HB.size)
              have hst := mstore s56 r55 (u8s D) (by rw [QZ.has, u8s_size, zeros_length]) (by rw [u8s_size, hDl]) (u8s_one D)
              have nm := om.ne_row QZ (key_no (zeros_length 32))
              have nl := ol.ne_row QZ (key_no (zeros_length 32))
              (go_wp2_with (first | (refine wpLexD_skip rfl ?_) | (refine wpLexD_pure0 (by decide) rfl (fun KP hKP => ?_); go_simp; (try go_bits); refine hKP _ _ ?_) | (refine wpLexD_pure (by decide) rfl (fun KP hKP => ?_); go_simp; refine ⟨_, fun w9 hw9 => (by have s1 := ((show Below w.heap.size w w9 from hw9).cell (p := ⟨gl, og + x, none⟩) hgl).trans e1; have s2 := ((show Below w.heap.size w w9 from hw9).cell (p := ⟨gl, og + y, none⟩) hgl).trans e2; go_simp; rfl), ?_⟩; refine hKP _ _ ?_) | (refine wpLexD_loud (by decide) rfl (fun KL hKL => ?_)) | (refine wpLexS_pure0 rfl (fun KP hKP => ?_); go_simp; (try go_bits); refine hKP _ _ ?_) | (refine wpLexS_pure rfl (fun KP hKP => ?_); go_simp; refine ⟨_, fun w9 hw9 => (by have s1 := ((show Below w.heap.size w w9 from hw9).cell (p := ⟨gl, og + x, none⟩) hgl).trans e1; have s2 := ((show Below w.heap.size w w9 from hw9).cell (p := ⟨gl, og + y, none⟩) hgl).trans e2; go_simp; rfl), ?_⟩; refine hKP _ _ ?_) | (refine wpLexS_loud rfl (fun KL hKL => ?_))))
              have Q1 := QZ.set (u8s D)
              replace hm := RowIs.set_ne hm (show g ≠ r55 by omega) (u8s D)
              replace hR := hR.set_ne (show r ≠ r55 by omega) (u8s D)
              replace om := kpm.setRow nm (u8s D)
              replace ol := kpl.setRow nl (u8s D)
              replace HB : Below w.heap.size w (s56.setRow r55 (u8s D)) := below_setRow HB (by omega) _
              replace hbz : bs ≤ (s56.setRow r55 (u8s D)).heap.size := by simpa [World.setRow] using hbz
              refine hKL _ _ (show BelS w _ from HB) (fun _ => ?_)
              clear KL hKL hst QZ nm nl kpm kpl BX hxr
              generalize (s56.setRow r55 (u8s D)) = e57 at hm om hR ol HB hbz Q1  ⊢
              go_wp2_with (refine wpLexS_nil ?_)
              have BX : Below (e57).heap.size (e57) (e57).drew := (by repeat (first | with_reducible exact Below.refl _ _ | with_reducible assumption | refine Below.drew ?_ | refine below_drewN ?_ | refine Below.alloc ?_ (by first | omega | (simp; done) | (simp; omega)) _ | refine below_setRow ?_ (by omega) _ | refine Below.setCell ?_ (by first | omega | (simp; done) | (simp; omega)) _))
              replace hm := RowIs.step hm BX
              replace om := om.step BX
              replace hR := hR.step BX
              replace ol := ol.step BX
              replace hbz := Nat.le_trans hbz BX.size
              replace HB := HB.trans (BX.mono HB.size)
              replace Q1 := Q1.step BX
              refine wp_region_lexF [] [5, 11] 14 _ (BelS w) rfl (by kernel_rfl) (by decide +kernel) (show BelS w _ from HB) (fun _ => ?_)
              clear BX
              generalize (e57).drew = d58 at hm om hR ol hbz HB Q1 ⊢
              have BX := Below.refl d58.heap.size d58
              (go_wp2_with (first | (refine wpLexF_here rfl ?_) | (refine wpLexF_pure0 (by decide) rfl (fun KP hKP => ?_); go_simp; (try go_bits); refine hKP _ _ ?_) | (refine wpLexF_pure (by decide) rfl (fun KP hKP => ?_); go_simp; refine ⟨_, fun w9 hw9 => (by have s1 := ((show Below w.heap.size w w9 from hw9).cell (p := ⟨gl, og + x, none⟩) hgl).trans e1; have s2 := ((show Below w.heap.size w w9 from hw9).cell (p := ⟨gl, og + y, none⟩) hgl).trans e2; go_simp; rfl), ?_⟩; refine hKP _ _ ?_)))
              refine wpLexF_loud (by decide) rfl (fun KL hKL => ?_) (fun KL hKL => ?_)
              · skip
                go_wp2_with fail
                obtain ⟨b59, hb8⟩ : ∃ k, k = d58.heap.size := ⟨_, rfl⟩
                have own8 := Own8.empty (T := 5) (g := b59) d58 (base := d58.heap.size) hb8 BX.size
                have hq : Below d58.heap.size d58 (d58.alloc (.cells #[] 5)) := (by repeat (first | with_reducible exact Below.refl _ _ | with_reducible assumption | refine Below.drew ?_ | refine below_drewN ?_ | refine Below.alloc ?_ (by first | omega | (simp; done) | (simp; omega)) _ | refine below_setRow ?_ (by omega) _ | refine Below.setCell ?_ (by first | omega | (simp; done) | (simp; omega)) _))
                replace BX := BX.trans (hq.mono BX.size)
                clear hq
                generalize (d58.alloc (.cells #[] 5)) = x60 at BX own8 ⊢
                rw [← hb8]
                clear hb8
                refine hKL _ _ (show BelS w _ from HB.trans (BX.mono HB.size)) (fun _ => ?_)
                clear KL hKL
                (go_wp2_with (first | (refine wpLexF_here rfl ?_) | (refine wpLexF_pure0 (by decide) rfl (fun KP hKP => ?_); go_simp; (try go_bits); refine hKP _ _ ?_) | (refine wpLexF_pure (by decide) rfl (fun KP hKP => ?_); go_simp; refine ⟨_, fun w9 hw9 => (by have s1 := ((show Below w.heap.size w w9 from hw9).cell (p := ⟨gl, og + x, none⟩) hgl).trans e1; have s2 := ((show Below w.heap.size w w9 from hw9).cell (p := ⟨gl, og + y, none⟩) hgl).trans e2; go_simp; rfl), ?_⟩; refine hKP _ _ ?_)))
                refine wpLexF_loud (by decide) rfl (fun KL hKL => ?_) (fun KL hKL => ?_)
                · skip
                  have hbW := hb1.step (HB.trans (BX.mono HB.size))
                  refine wpList_appendBsX Tryd.underlying27 Tryd.info8 rfl (.tmp 71) (.tmp 75) rfl d58.heap.size rfl own8 rfl hbW (List.nil_append _) HL1.out (by omega) BX.size ?_
                  intro A861 c862 x63 own9 gr9 ob9
                  have bel9 := below_append (Below.refl d58.heap.size x60) own8 gr9 (Nat.le_refl _) BX.size
                  replace BX := BX.trans bel9
                  replace own8 := own9
                  clear own9 gr9 ob9 bel9 hbW
                  go_wp2_with fail
                  refine hKL _ _ (show BelS w _ from HB.trans (BX.mono HB.size)) (fun _ => ?_)
                  clear KL hKL
                  (go_wp2_with (first | (refine wpLexF_here rfl ?_) | (refine wpLexF_pure0 (by decide) rfl (fun KP hKP => ?_); go_simp; (try go_bits); refine hKP _ _ ?_) | (refine wpLexF_pure (by decide) rfl (fun KP hKP => ?_); go_simp; refine ⟨_, fun w9 hw9 => (by have s1 := ((show Below w.heap.size w w9 from hw9).cell (p := ⟨gl, og + x, none⟩) hgl).trans e1; have s2 := ((show Below w.heap.size w w9 from hw9).cell (p := ⟨gl, og + y, none⟩) hgl).trans e2; go_simp; rfl), ?_⟩; refine hKP _ _ ?_)))
                  refine wpLexF_loud (by decide) rfl (fun KL hKL => ?_) (fun KL hKL => ?_)
                  · skip
                    have hbW := hb2.step (HB.trans (BX.mono HB.size))
                    refine wpList_appendBsX Tryd.underlying27 Tryd.info8 rfl (.tmp 76) (.tmp 81) rfl d58.heap.size rfl own8 rfl hbW (rfl) HL12.out (by omega) BX.size ?_
                    intro A864 c865 x66 own9 gr9 ob9
                    have bel9 := below_append (Below.refl d58.heap.size x63) own8 gr9 (Nat.le_refl _) BX.size
                    replace BX := BX.trans bel9
                    replace own8 := own9
                    clear own9 gr9 ob9 bel9 hbW
                    go_wp2_with fail
                    refine hKL _ _ (show BelS w _ from HB.trans (BX.mono HB.size)) (fun _ => ?_)
                    clear KL hKL
                    (go_wp2_with (first | (refine wpLexF_here rfl ?_) | (refine wpLexF_pure0 (by decide) rfl (fun KP hKP => ?_); go_simp; (try go_bits); refine hKP _ _ ?_) | (refine wpLexF_pure (by decide) rfl (fun KP hKP => ?_); go_simp; refine ⟨_, fun w9 hw9 => (by have s1 := ((show Below w.heap.size w w9 from hw9).cell (p := ⟨gl, og + x, none⟩) hgl).trans e1; have s2 := ((show Below w.heap.size w w9 from hw9).cell (p := ⟨gl, og + y, none⟩) hgl).trans e2; go_simp; rfl), ?_⟩; refine hKP _ _ ?_)))
                    refine wpLexF_loud (by decide) rfl (fun KL hKL => ?_) (fun KL hKL => ?_)
                    · skip
                      go_wp2_with fail
                      replace hm := RowIs.step hm BX
                      replace om := om.step BX
                      replace hR := hR.step BX
                      replace ol := ol.step BX
                      replace Q1 := Q1.step BX
                      replace hbz := Nat.le_trans hbz BX.size
                      replace HB := HB.trans (BX.mono HB.size)
                      have he := he0.step HB
                      have hv8 := own8.bsN HL12.out (by omega)
                      have hnn := log_no8 hR ol
                      have hne : vm'.ownBlock ≠ some r := fun e => by have := (om.lt e).1; omega
                      refine (ML.out _ _ _ hR ol hbz hv8).mono ?_
                      rintro e s67 ⟨rfl, ⟨vl', hR', ol', kk, ob⟩, hu⟩
                      replace Q1 := Q1.upd hu (show r55 ≠ r by omega)
                      have hap' : ∀ b, vl'.ownBlock = some b → vm'.ownBlock ≠ some b ∧ b ≠ g := fun b hb => by
                        rcases ob b hb with h | h
                        · exact hap b h
                        · exact ⟨fun e => by have := (om.lt e).2; omega, by omega⟩
                      replace hm := RowIs.upd hm hu (show g ≠ r by omega)
                      replace om := om.upd hu hnn hne
                      replace HB := hu.below HB hwr HB.size
                      replace hbz := Nat.le_trans hbz hu.size
                      replace hR := hR'; replace ol := ol'; replace hap := hap'
                      replace BX := Below.refl s67.heap.size s67
                      clear hR' ol' hap' kk ob hu own8 hv8 hnn hne he
                      go_wp2_with fail
                      refine hKL _ _ (show BelS w _ from HB) (fun _ => ?_)
                      clear KL hKL
                      (go_wp2_with (first | (refine wpLexF_here rfl ?_) | (refine wpLexF_pure0 (by decide) rfl (fun KP hKP => ?_); go_simp; (try go_bits); refine hKP _ _ ?_) | (refine wpLexF_pure (by decide) rfl (fun KP hKP => ?_); go_simp; refine ⟨_, fun w9 hw9 => (by have s1 := ((show Below w.heap.size w w9 from hw9).cell (p := ⟨gl, og + x, none⟩) hgl).trans e1; have s2 := ((show Below w.heap.size w w9 from hw9).cell (p := ⟨gl, og + y, none⟩) hgl).trans e2; go_simp; rfl), ?_⟩; refine hKP _ _ ?_)))
                      (go_wp2_with (first | (refine wpLexD_skip rfl ?_) | (refine wpLexD_pure0 (by decide) rfl (fun KP hKP => ?_); go_simp; (try go_bits); refine hKP _ _ ?_) | (refine wpLexD_pure (by decide) rfl (fun KP hKP => ?_); go_simp; refine ⟨_, fun w9 hw9 => (by have s1 := ((show Below w.heap.size w w9 from hw9).cell (p := ⟨gl, og + x, none⟩) hgl).trans e1; have s2 := ((show Below w.heap.size w w9 from hw9).cell (p := ⟨gl, og + y, none⟩) hgl).trans e2; go_simp; rfl), ?_⟩; refine hKP _ _ ?_) | (refine wpLexD_loud (by decide) rfl (fun KL hKL => ?_)) | (refine wpLexS_pure0 rfl (fun KP hKP => ?_); go_simp; (try go_bits); refine hKP _ _ ?_) | (refine wpLexS_pure rfl (fun KP hKP => ?_); go_simp; refine ⟨_, fun w9 hw9 => (by have s1 := ((show Below w.heap.size w w9 from hw9).cell (p := ⟨gl, og + x, none⟩) hgl).trans e1; have s2 := ((show Below w.heap.size w w9 from hw9).cell (p := ⟨gl, og + y, none⟩) hgl).trans e2; go_simp; rfl), ?_⟩; refine hKP _ _ ?_) | (refine wpLexS_loud rfl (fun KL hKL => ?_))))
                      have QZ : RowIs (s67.alloc (.cells (u8s (zeros 32)) 33)) s67.heap.size (u8s (zeros 32)) := RowIs.new _ _ _
                      have hxs : s67.heap.size ≤ s67.heap.size := BX.size
                      have hq : Below s67.heap.size s67 (s67.alloc (.cells (u8s (zeros 32)) 33)) := (by repeat (first | with_reducible exact Below.refl _ _ | with_reducible assumption | refine Below.drew ?_ | refine below_drewN ?_ | refine Below.alloc ?_ (by first | omega | (simp; done) | (simp; omega)) _ | refine below_setRow ?_ (by omega) _ | refine Below.setCell ?_ (by first | omega | (simp; done) | (simp; omega)) _))
                      replace BX := BX.trans (hq.mono BX.size)
                      clear hq
                      generalize (s67.alloc (.cells (u8s (zeros 32)) 33)) = x68 at BX QZ ⊢
                      obtain ⟨r69, hr_⟩ : ∃ k, k = s67.heap.size := ⟨_, rfl⟩
                      have hxr : s67.heap.size ≤ r69 := by rw [hr_]; exact hxs
                      have hbr : bs ≤ r69 := Nat.le_trans hbz hxr
                      have hq1 := Nat.lt_of_lt_of_le (RowIs.lt Q1) hxr
                      rw [← hr_] at QZ  ⊢
                      clear hr_ hxs
                      refine hKL _ _ (show BelS w _ from HB.trans (BX.mono HB.size)) (fun _ => ?_)
                      clear KL hKL
                      have kpm := (Kept.of om hxr).step BX
                      have kpl := (Kept.of ol hxr).step BX
                      replace hm := RowIs.step hm BX
                      replace om := om.step BX
                      replace hR := hR.step BX
                      replace ol := ol.step BX
                      replace hbz := Nat.le_trans hbz BX.size
                      replace HB := HB.trans (BX.mono HB.size)
                      replace Q1 := Q1.step BX
                      have hst := mstore x68 r69 (u8s D) (by rw [QZ.has, u8s_size, zeros_length]) (by rw [u8s_size, hDl]) (u8s_one D)
                      have nm := om.ne_row QZ (key_no (zeros_length 32))
                      have nl := ol.ne_row QZ (key_no (zeros_length 32))
                      (go_wp2_with (first | (refine wpLexD_skip rfl ?_) | (refine wpLexD_pure0 (by decide) rfl (fun KP hKP => ?_); go_simp; (try go_bits); refine hKP _ _ ?_) | (refine wpLexD_pure (by decide) rfl (fun KP hKP => ?_); go_simp; refine ⟨_, fun w9 hw9 => (by have s1 := ((show Below w.heap.size w w9 from hw9).cell (p := ⟨gl, og + x, none⟩) hgl).trans e1; have s2 := ((show Below w.heap.size w w9 from hw9).cell (p := ⟨gl, og + y, none⟩) hgl).trans e2; go_simp; rfl), ?_⟩; refine hKP _ _ ?_) | (refine wpLexD_loud (by decide) rfl (fun KL hKL => ?_)) | (refine wpLexS_pure0 rfl (fun KP hKP => ?_); go_simp; (try go_bits); refine hKP _ _ ?_) | (refine wpLexS_pure rfl (fun KP hKP => ?_); go_simp; refine ⟨_, fun w9 hw9 => (by have s1 := ((show Below w.heap.size w w9 from hw9).cell (p := ⟨gl, og + x, none⟩) hgl).trans e1; have s2 := ((show Below w.heap.size w w9 from hw9).cell (p := ⟨gl, og + y, none⟩) hgl).trans e2; go_simp; rfl), ?_⟩; refine hKP _ _ ?_) | (refine wpLexS_loud rfl (fun KL hKL => ?_))))
                      have Q2 := QZ.set (u8s D)
                      replace hm := RowIs.set_ne hm (show g ≠ r69 by omega) (u8s D)
                      replace hR := hR.set_ne (show r ≠ r69 by omega) (u8s D)
                      replace om := kpm.setRow nm (u8s D)
                      replace ol := kpl.setRow nl (u8s D)
                      replace HB : Below w.heap.size w (x68.setRow r69 (u8s D)) := below_setRow HB (by omega) _
                      replace hbz : bs ≤ (x68.setRow r69 (u8s D)).heap.size := by simpa [World.setRow] using hbz
                      replace Q1 := Q1.set_ne (show r55 ≠ r69 by omega) (u8s D)
                      refine hKL _ _ (show BelS w _ from HB) (fun _ => ?_)
                      clear KL hKL hst QZ nm nl kpm kpl BX hxr
                      generalize (x68.setRow r69 (u8s D)) = e70 at hm om hR ol HB hbz Q2 Q1 ⊢
                      have L1 := sload Q1 hDl
                      have L2 := sload Q2 hDl
                      go_wp2_with (refine wpLexS_nil ?_)
                      exact ⟨⟨k + 1, n + 1, _, _, by have := HX.out; go_num, by have := HN.out; omega, by have := HY.out; have := HX.out; omega, hm, om, hR, ol, hap, HB, hbz, fun u hu => by
                        rw [HP.out, List.mem_append, List.mem_singleton] at hu
                        rcases hu with h | h
                        · exact hall u h
                        · rw [h, HL12.out]; exact hb12⟩, by simp [intOf]; omega⟩
                    · skip
                      go_wp2_with fail
                      have hro : ∀ k, (Value.slice A864 n12 c865).ownBlock = some k → k ≠ x66.heap.size := fun k hk => by have := (own8lt own8 hk).2; omega
                      have QZ : RowIs (x66.alloc (.cells (u8s (zeros 32)) 33)) x66.heap.size (u8s (zeros 32)) := RowIs.new _ _ _
                      have hxs : d58.heap.size ≤ x66.heap.size := BX.size
                      have hq : Below x66.heap.size x66 (x66.alloc (.cells (u8s (zeros 32)) 33)) := (by repeat (first | with_reducible exact Below.refl _ _ | with_reducible assumption | refine Below.drew ?_ | refine below_drewN ?_ | refine Below.alloc ?_ (by first | omega | (simp; done) | (simp; omega)) _ | refine below_setRow ?_ (by omega) _ | refine Below.setCell ?_ (by first | omega | (simp; done) | (simp; omega)) _))
                      replace own8 := own8.step hq
                      replace BX := BX.trans (hq.mono BX.size)
                      clear hq
                      generalize (x66.alloc (.cells (u8s (zeros 32)) 33)) = x71 at BX own8 QZ ⊢
                      obtain ⟨r72, hr_⟩ : ∃ k, k = x66.heap.size := ⟨_, rfl⟩
                      have hxr : d58.heap.size ≤ r72 := by rw [hr_]; exact hxs
                      have hbr : bs ≤ r72 := Nat.le_trans hbz hxr
                      have hq1 := Nat.lt_of_lt_of_le (RowIs.lt Q1) hxr
                      rw [← hr_] at QZ hro ⊢
                      clear hr_ hxs
                      refine hKL _ _ (show BelS w _ from HB.trans (BX.mono HB.size)) (fun _ => ?_)
                      clear KL hKL
                      (go_wp2_with (first | (refine wpLexD_skip rfl ?_) | (refine wpLexD_pure0 (by decide) rfl (fun KP hKP => ?_); go_simp; (try go_bits); refine hKP _ _ ?_) | (refine wpLexD_pure (by decide) rfl (fun KP hKP => ?_); go_simp; refine ⟨_, fun w9 hw9 => (by have s1 := ((show Below w.heap.size w w9 from hw9).cell (p := ⟨gl, og + x, none⟩) hgl).trans e1; have s2 := ((show Below w.heap.size w w9 from hw9).cell (p := ⟨gl, og + y, none⟩) hgl).trans e2; go_simp; rfl), ?_⟩; refine hKP _ _ ?_)))
                      refine wpLexD_loud (by decide) rfl (fun KL hKL => ?_)
                      go_wp2_with fail
                      have kpm := (Kept.of om hxr).step BX
                      have kpl := (Kept.of ol hxr).step BX
                      replace hm := RowIs.step hm BX
                      replace om := om.step BX
                      replace hR := hR.step BX
                      replace ol := ol.step BX
                      replace Q1 := Q1.step BX
                      replace hbz := Nat.le_trans hbz BX.size
                      replace HB := HB.trans (BX.mono HB.size)
                      have he := he0.step HB
                      have hv8 := own8.bsN HL12.out (by omega)
                      have hnn := log_no8 hR ol
                      have hne : vm'.ownBlock ≠ some r := fun e => by have := (om.lt e).1; omega
                      refine (ML.out _ _ _ hR ol hbz hv8).mono ?_
                      rintro e s73 ⟨rfl, ⟨vl', hR', ol', kk, ob⟩, hu⟩
                      replace kpl := kk r72 (RowIs.lt QZ) kpl
                      replace kpm := kpm.upd hu hnn hne
                      replace QZ := QZ.upd hu (show r72 ≠ r by omega)
                      replace Q1 := Q1.upd hu (show r55 ≠ r by omega)
                      have hap' : ∀ b, vl'.ownBlock = some b → vm'.ownBlock ≠ some b ∧ b ≠ g := fun b hb => by
                        rcases ob b hb with h | h
                        · exact hap b h
                        · exact ⟨fun e => by have := (om.lt e).2; omega, by omega⟩
                      replace hm := RowIs.upd hm hu (show g ≠ r by omega)
                      replace om := om.upd hu hnn hne
                      replace HB := hu.below HB hwr HB.size
                      replace hbz := Nat.le_trans hbz hu.size
                      replace hR := hR'; replace ol := ol'; replace hap := hap'
                      replace BX := Below.refl s73.heap.size s73
                      clear hR' ol' hap' kk ob hu own8 hv8 hnn hne he
                      go_wp2_with fail
                      refine hKL _ _ (show BelS w _ from HB) (fun _ => ?_)
                      clear KL hKL
                      replace hm := RowIs.step hm BX
                      replace om := om.step BX
                      replace hR := hR.step BX
                      replace ol := ol.step BX
                      replace hbz := Nat.le_trans hbz BX.size
                      replace HB := HB.trans (BX.mono HB.size)
                      replace Q1 := Q1.step BX
                      have hst := mstore s73 r72 (u8s D) (by rw [QZ.has, u8s_size, zeros_length]) (by rw [u8s_size, hDl]) (u8s_one D)
                      have nm := om.ne_row QZ (key_no (zeros_length 32))
                      have nl := ol.ne_row QZ (key_no (zeros_length 32))
                      (go_wp2_with (first | (refine wpLexD_skip rfl ?_) | (refine wpLexD_pure0 (by decide) rfl (fun KP hKP => ?_); go_simp; (try go_bits); refine hKP _ _ ?_) | (refine wpLexD_pure (by decide) rfl (fun KP hKP => ?_); go_simp; refine ⟨_, fun w9 hw9 => (by have s1 := ((show Below w.heap.size w w9 from hw9).cell (p := ⟨gl, og + x, none⟩) hgl).trans e1; have s2 := ((show Below w.heap.size w w9 from hw9).cell (p := ⟨gl, og + y, none⟩) hgl).trans e2; go_simp; rfl), ?_⟩; refine hKP _ _ ?_) | (refine wpLexD_loud (by decide) rfl (fun KL hKL => ?_)) | (refine wpLexS_pure0 rfl (fun KP hKP => ?_); go_simp; (try go_bits); refine hKP _ _ ?_) | (refine wpLexS_pure rfl (fun KP hKP => ?_); go_simp; refine ⟨_, fun w9 hw9 => (by have s1 := ((show Below w.heap.size w w9 from hw9).cell (p := ⟨gl, og + x, none⟩) hgl).trans e1; have s2 := ((show Below w.heap.size w w9 from hw9).cell (p := ⟨gl, og + y, none⟩) hgl).trans e2; go_simp; rfl), ?_⟩; refine hKP _ _ ?_) | (refine wpLexS_loud rfl (fun KL hKL => ?_))))
                      have Q2 := QZ.set (u8s D)
                      replace hm := RowIs.set_ne hm (show g ≠ r72 by omega) (u8s D)
                      replace hR := hR.set_ne (show r ≠ r72 by omega) (u8s D)
                      replace om := kpm.setRow nm (u8s D)
                      replace ol := kpl.setRow nl (u8s D)
                      replace HB : Below w.heap.size w (s73.setRow r72 (u8s D)) := below_setRow HB (by omega) _
                      replace hbz : bs ≤ (s73.setRow r72 (u8s D)).heap.size := by simpa [World.setRow] using hbz
                      replace Q1 := Q1.set_ne (show r55 ≠ r72 by omega) (u8s D)
                      refine hKL _ _ (show BelS w _ from HB) (fun _ => ?_)
                      clear KL hKL hst QZ nm nl kpm kpl BX hxr
                      generalize (s73.setRow r72 (u8s D)) = e74 at hm om hR ol HB hbz Q2 Q1 ⊢
                      have L1 := sload Q1 hDl
                      have L2 := sload Q2 hDl
                      go_wp2_with (refine wpLexS_nil ?_)
                      exact ⟨⟨k + 1, n + 1, _, _, by have := HX.out; go_num, by have := HN.out; omega, by have := HY.out; have := HX.out; omega, hm, om, hR, ol, hap, HB, hbz, fun u hu => by
                        rw [HP.out, List.mem_append, List.mem_singleton] at hu
                        rcases hu with h | h
                        · exact hall u h
                        · rw [h, HL12.out]; exact hb12⟩, by simp [intOf]; omega⟩
                  · skip
                    go_wp2_with fail
                    have hro : ∀ k, (Value.slice A861 n1 c862).ownBlock = some k → k ≠ x63.heap.size := fun k hk => by have := (own8lt own8 hk).2; omega
                    have QZ : RowIs (x63.alloc (.cells (u8s (zeros 32)) 33)) x63.heap.size (u8s (zeros 32)) := RowIs.new _ _ _
                    have hxs : d58.heap.size ≤ x63.heap.size := BX.size
                    have hq : Below x63.heap.size x63 (x63.alloc (.cells (u8s (zeros 32)) 33)) := (by repeat (first | with_reducible exact Below.refl _ _ | with_reducible assumption | refine Below.drew ?_ | refine below_drewN ?_ | refine Below.alloc ?_ (by first | omega | (simp; done) | (simp; omega)) _ | refine below_setRow ?_ (by omega) _ | refine Below.setCell ?_ (by first | omega | (simp; done) | (simp; omega)) _))
                    replace own8 := own8.step hq
                    replace BX := BX.trans (hq.mono BX.size)
                    clear hq
                    generalize (x63.alloc (.cells (u8s (zeros 32)) 33)) = x75 at BX own8 QZ ⊢
                    obtain ⟨r76, hr_⟩ : ∃ k, k = x63.heap.size := ⟨_, rfl⟩
                    have hxr : d58.heap.size ≤ r76 := by rw [hr_]; exact hxs
                    have hbr : bs ≤ r76 := Nat.le_trans hbz hxr
                    have hq1 := Nat.lt_of_lt_of_le (RowIs.lt Q1) hxr
                    rw [← hr_] at QZ hro ⊢
                    clear hr_ hxs
                    refine hKL _ _ (show BelS w _ from HB.trans (BX.mono HB.size)) (fun _ => ?_)
                    clear KL hKL
                    (go_wp2_with (first | (refine wpLexD_skip rfl ?_) | (refine wpLexD_pure0 (by decide) rfl (fun KP hKP => ?_); go_simp; (try go_bits); refine hKP _ _ ?_) | (refine wpLexD_pure (by decide) rfl (fun KP hKP => ?_); go_simp; refine ⟨_, fun w9 hw9 => (by have s1 := ((show Below w.heap.size w w9 from hw9).cell (p := ⟨gl, og + x, none⟩) hgl).trans e1; have s2 := ((show Below w.heap.size w w9 from hw9).cell (p := ⟨gl, og + y, none⟩) hgl).trans e2; go_simp; rfl), ?_⟩; refine hKP _ _ ?_)))
                    refine wpLexD_loud (by decide) rfl (fun KL hKL => ?_)
                    have hbW := hb2.step (HB.trans (BX.mono HB.size))
                    refine wpList_appendBsX Tryd.underlying27 Tryd.info8 rfl (.tmp 76) (.tmp 81) rfl d58.heap.size rfl own8 rfl hbW (rfl) HL12.out (by omega) BX.size ?_
                    intro A877 c878 x79 own9 gr9 ob9
                    have hqlt := RowIs.lt QZ
                    replace QZ := QZ.grown gr9 (fun e => hro _ e rfl)
                    replace hro : ∀ k, (Value.slice A877 n12 c878).ownBlock = some k → k ≠ r76 := fun k hk => by
                      rcases ob9 k hk with h | h
                      · exact hro k h
                      · omega
                    clear hqlt
                    have bel9 := below_append (Below.refl d58.heap.size x75) own8 gr9 (Nat.le_refl _) BX.size
                    replace BX := BX.trans bel9
                    replace own8 := own9
                    clear own9 gr9 ob9 bel9 hbW
                    go_wp2_with fail
                    refine hKL _ _ (show BelS w _ from HB.trans (BX.mono HB.size)) (fun _ => ?_)
                    clear KL hKL
                    (go_wp2_with (first | (refine wpLexD_skip rfl ?_) | (refine wpLexD_pure0 (by decide) rfl (fun KP hKP => ?_); go_simp; (try go_bits); refine hKP _ _ ?_) | (refine wpLexD_pure (by decide) rfl (fun KP hKP => ?_); go_simp; refine ⟨_, fun w9 hw9 => (by have s1 := ((show Below w.heap.size w w9 from hw9).cell (p := ⟨gl, og + x, none⟩) hgl).trans e1; have s2 := ((show Below w.heap.size w w9 from hw9).cell (p := ⟨gl, og + y, none⟩) hgl).trans e2; go_simp; rfl), ?_⟩; refine hKP _ _ ?_)))
                    refine wpLexD_loud (by decide) rfl (fun KL hKL => ?_)
                    go_wp2_with fail
                    have kpm := (Kept.of om hxr).step BX
                    have kpl := (Kept.of ol hxr).step BX
                    replace hm := RowIs.step hm BX
                    replace om := om.step BX
                    replace hR := hR.step BX
                    replace ol := ol.step BX
                    replace Q1 := Q1.step BX
                    replace hbz := Nat.le_trans hbz BX.size
                    replace HB := HB.trans (BX.mono HB.size)
                    have he := he0.step HB
                    have hv8 := own8.bsN HL12.out (by omega)
                    have hnn := log_no8 hR ol
                    have hne : vm'.ownBlock ≠ some r := fun e => by have := (om.lt e).1; omega
                    refine (ML.out _ _ _ hR ol hbz hv8).mono ?_
                    rintro e s80 ⟨rfl, ⟨vl', hR', ol', kk, ob⟩, hu⟩
                    replace kpl := kk r76 (RowIs.lt QZ) kpl
                    replace kpm := kpm.upd hu hnn hne
                    replace QZ := QZ.upd hu (show r76 ≠ r by omega)
                    replace Q1 := Q1.upd hu (show r55 ≠ r by omega)
                    have hap' : ∀ b, vl'.ownBlock = some b → vm'.ownBlock ≠ some b ∧ b ≠ g := fun b hb => by
                      rcases ob b hb with h | h
                      · exact hap b h
                      · exact ⟨fun e => by have := (om.lt e).2; omega, by omega⟩
                    replace hm := RowIs.upd hm hu (show g ≠ r by omega)
                    replace om := om.upd hu hnn hne
                    replace HB := hu.below HB hwr HB.size
                    replace hbz := Nat.le_trans hbz hu.size
                    replace hR := hR'; replace ol := ol'; replace hap := hap'
                    replace BX := Below.refl s80.heap.size s80
                    clear hR' ol' hap' kk ob hu own8 hv8 hnn hne he
                    go_wp2_with fail
                    refine hKL _ _ (show BelS w _ from HB) (fun _ => ?_)
                    clear KL hKL
                    replace hm := RowIs.step hm BX
                    replace om := om.step BX
                    replace hR := hR.step BX
                    replace ol := ol.step BX
                    replace hbz := Nat.le_trans hbz BX.size
                    replace HB := HB.trans (BX.mono HB.size)
                    replace Q1 := Q1.step BX
                    have hst := mstore s80 r76 (u8s D) (by rw [QZ.has, u8s_size, zeros_length]) (by rw [u8s_size, hDl]) (u8s_one D)
                    have nm := om.ne_row QZ (key_no (zeros_length 32))
                    have nl := ol.ne_row QZ (key_no (zeros_length 32))
                    (go_wp2_with (first | (refine wpLexD_skip rfl ?_) | (refine wpLexD_pure0 (by decide) rfl (fun KP hKP => ?_); go_simp; (try go_bits); refine hKP _ _ ?_) | (refine wpLexD_pure (by decide) rfl (fun KP hKP => ?_); go_simp; refine ⟨_, fun w9 hw9 => (by have s1 := ((show Below w.heap.size w w9 from hw9).cell (p := ⟨gl, og + x, none⟩) hgl).trans e1; have s2 := ((show Below w.heap.size w w9 from hw9).cell (p := ⟨gl, og + y, none⟩) hgl).trans e2; go_simp; rfl), ?_⟩; refine hKP _ _ ?_) | (refine wpLexD_loud (by decide) rfl (fun KL hKL => ?_)) | (refine wpLexS_pure0 rfl (fun KP hKP => ?_); go_simp; (try go_bits); refine hKP _ _ ?_) | (refine wpLexS_pure rfl (fun KP hKP => ?_); go_simp; refine ⟨_, fun w9 hw9 => (by have s1 := ((show Below w.heap.size w w9 from hw9).cell (p := ⟨gl, og + x, none⟩) hgl).trans e1; have s2 := ((show Below w.heap.size w w9 from hw9).cell (p := ⟨gl, og + y, none⟩) hgl).trans e2; go_simp; rfl), ?_⟩; refine hKP _ _ ?_) | (refine wpLexS_loud rfl (fun KL hKL => ?_))))
                    have Q2 := QZ.set (u8s D)
                    replace hm := RowIs.set_ne hm (show g ≠ r76 by omega) (u8s D)
                    replace hR := hR.set_ne (show r ≠ r76 by omega) (u8s D)
                    replace om := kpm.setRow nm (u8s D)
                    replace ol := kpl.setRow nl (u8s D)
                    replace HB : Below w.heap.size w (s80.setRow r76 (u8s D)) := below_setRow HB (by omega) _
                    replace hbz : bs ≤ (s80.setRow r76 (u8s D)).heap.size := by simpa [World.setRow] using hbz
                    replace Q1 := Q1.set_ne (show r55 ≠ r76 by omega) (u8s D)
                    refine hKL _ _ (show BelS w _ from HB) (fun _ => ?_)
                    clear KL hKL hst QZ nm nl kpm kpl BX hxr
                    generalize (s80.setRow r76 (u8s D)) = e81 at hm om hR ol HB hbz Q2 Q1 ⊢
                    have L1 := sload Q1 hDl
                    have L2 := sload Q2 hDl
                    go_wp2_with (refine wpLexS_nil ?_)
                    exact ⟨⟨k + 1, n + 1, _, _, by have := HX.out; go_num, by have := HN.out; omega, by have := HY.out; have := HX.out; omega, hm, om, hR, ol, hap, HB, hbz, fun u hu => by
                      rw [HP.out, List.mem_append, List.mem_singleton] at hu
                      rcases hu with h | h
                      · exact hall u h
                      · rw [h, HL12.out]; exact hb12⟩, by simp [intOf]; omega⟩
                · skip
                  go_wp2_with fail
                  have hro : ∀ k, (Value.slice (some ⟨b59, 0, none⟩) 0 0).ownBlock = some k → k ≠ x60.heap.size := fun k hk => by have := (own8lt own8 hk).2; omega
                  have QZ : RowIs (x60.alloc (.cells (u8s (zeros 32)) 33)) x60.heap.size (u8s (zeros 32)) := RowIs.new _ _ _
                  have hxs : d58.heap.size ≤ x60.heap.size := BX.size
                  have hq : Below x60.heap.size x60 (x60.alloc (.cells (u8s (zeros 32)) 33)) := (by repeat (first | with_reducible exact Below.refl _ _ | with_reducible assumption | refine Below.drew ?_ | refine below_drewN ?_ | refine Below.alloc ?_ (by first | omega | (simp; done) | (simp; omega)) _ | refine below_setRow ?_ (by omega) _ | refine Below.setCell ?_ (by first | omega | (simp; done) | (simp; omega)) _))
                  replace own8 := own8.step hq
                  replace BX := BX.trans (hq.mono BX.size)
                  clear hq
                  generalize (x60.alloc (.cells (u8s (zeros 32)) 33)) = x82 at BX own8 QZ ⊢
                  obtain ⟨r83, hr_⟩ : ∃ k, k = x60.heap.size := ⟨_, rfl⟩
                  have hxr : d58.heap.size ≤ r83 := by rw [hr_]; exact hxs
                  have hbr : bs ≤ r83 := Nat.le_trans hbz hxr
                  have hq1 := Nat.lt_of_lt_of_le (RowIs.lt Q1) hxr
                  rw [← hr_] at QZ hro ⊢
                  clear hr_ hxs
                  refine hKL _ _ (show BelS w _ from HB.trans (BX.mono HB.size)) (fun _ => ?_)
                  clear KL hKL
                  (go_wp2_with (first | (refine wpLexD_skip rfl ?_) | (refine wpLexD_pure0 (by decide) rfl (fun KP hKP => ?_); go_simp; (try go_bits); refine hKP _ _ ?_) | (refine wpLexD_pure (by decide) rfl (fun KP hKP => ?_); go_simp; refine ⟨_, fun w9 hw9 => (by have s1 := ((show Below w.heap.size w w9 from hw9).cell (p := ⟨gl, og + x, none⟩) hgl).trans e1; have s2 := ((show Below w.heap.size w w9 from hw9).cell (p := ⟨gl, og + y, none⟩) hgl).trans e2; go_simp; rfl), ?_⟩; refine hKP _ _ ?_)))
                  refine wpLexD_loud (by decide) rfl (fun KL hKL => ?_)
                  have hbW := hb1.step (HB.trans (BX.mono HB.size))
                  refine wpList_appendBsX Tryd.underlying27 Tryd.info8 rfl (.tmp 71) (.tmp 75) rfl d58.heap.size rfl own8 rfl hbW (List.nil_append _) HL1.out (by omega) BX.size ?_
                  intro A884 c885 x86 own9 gr9 ob9
                  have hqlt := RowIs.lt QZ
                  replace QZ := QZ.grown gr9 (fun e => hro _ e rfl)
                  replace hro : ∀ k, (Value.slice A884 n1 c885).ownBlock = some k → k ≠ r83 := fun k hk => by
                    rcases ob9 k hk with h | h
                    · exact hro k h
                    · omega
                  clear hqlt
                  have bel9 := below_append (Below.refl d58.heap.size x82) own8 gr9 (Nat.le_refl _) BX.size
                  replace BX := BX.trans bel9
                  replace own8 := own9
                  clear own9 gr9 ob9 bel9 hbW
                  go_wp2_with fail
                  refine hKL _ _ (show BelS w _ from HB.trans (BX.mono HB.size)) (fun _ => ?_)
                  clear KL hKL
                  (go_wp2_with (first | (refine wpLexD_skip rfl ?_) | (refine wpLexD_pure0 (by decide) rfl (fun KP hKP => ?_); go_simp; (try go_bits); refine hKP _ _ ?_) | (refine wpLexD_pure (by decide) rfl (fun KP hKP => ?_); go_simp; refine ⟨_, fun w9 hw9 => (by have s1 := ((show Below w.heap.size w w9 from hw9).cell (p := ⟨gl, og + x, none⟩) hgl).trans e1; have s2 := ((show Below w.heap.size w w9 from hw9).cell (p := ⟨gl, og + y, none⟩) hgl).trans e2; go_simp; rfl), ?_⟩; refine hKP _ _ ?_)))
                  refine wpLexD_loud (by decide) rfl (fun KL hKL => ?_)
                  have hbW := hb2.step (HB.trans (BX.mono HB.size))
                  refine wpList_appendBsX Tryd.underlying27 Tryd.info8 rfl (.tmp 76) (.tmp 81) rfl d58.heap.size rfl own8 rfl hbW (rfl) HL12.out (by omega) BX.size ?_
                  intro A887 c888 x89 own9 gr9 ob9
                  have hqlt := RowIs.lt QZ
                  replace QZ := QZ.grown gr9 (fun e => hro _ e rfl)
                  replace hro : ∀ k, (Value.slice A887 n12 c888).ownBlock = some k → k ≠ r83 := fun k hk => by
                    rcases ob9 k hk with h | h
                    · exact hro k h
                    · omega
                  clear hqlt
                  have bel9 := below_append (Below.refl d58.heap.size x86) own8 gr9 (Nat.le_refl _) BX.size
                  replace BX := BX.trans bel9
                  replace own8 := own9
                  clear own9 gr9 ob9 bel9 hbW
                  go_wp2_with fail
                  refine hKL _ _ (show BelS w _ from HB.trans (BX.mono HB.size)) (fun _ => ?_)
                  clear KL hKL
                  (go_wp2_with (first | (refine wpLexD_skip rfl ?_) | (refine wpLexD_pure0 (by decide) rfl (fun KP hKP => ?_); go_simp; (try go_bits); refine hKP _ _ ?_) | (refine wpLexD_pure (by decide) rfl (fun KP hKP => ?_); go_simp; refine ⟨_, fun w9 hw9 => (by have s1 := ((show Below w.heap.size w w9 from hw9).cell (p := ⟨gl, og + x, none⟩) hgl).trans e1; have s2 := ((show Below w.heap.size w w9 from hw9).cell (p := ⟨gl, og + y, none⟩) hgl).trans e2; go_simp; rfl), ?_⟩; refine hKP _ _ ?_)))
                  refine wpLexD_loud (by decide) rfl (fun KL hKL => ?_)
                  go_wp2_with fail
                  have kpm := (Kept.of om hxr).step BX
                  have kpl := (Kept.of ol hxr).step BX
                  replace hm := RowIs.step hm BX
                  replace om := om.step BX
                  replace hR := hR.step BX
                  replace ol := ol.step BX
                  replace Q1 := Q1.step BX
                  replace hbz := Nat.le_trans hbz BX.size
                  replace HB := HB.trans (BX.mono HB.size)
                  have he := he0.step HB
                  have hv8 := own8.bsN HL12.out (by omega)
                  have hnn := log_no8 hR ol
                  have hne : vm'.ownBlock ≠ some r := fun e => by have := (om.lt e).1; omega
                  refine (ML.out _ _ _ hR ol hbz hv8).mono ?_
                  rintro e s90 ⟨rfl, ⟨vl', hR', ol', kk, ob⟩, hu⟩
                  replace kpl := kk r83 (RowIs.lt QZ) kpl
                  replace kpm := kpm.upd hu hnn hne
                  replace QZ := QZ.upd hu (show r83 ≠ r by omega)
                  replace Q1 := Q1.upd hu (show r55 ≠ r by omega)
                  have hap' : ∀ b, vl'.ownBlock = some b → vm'.ownBlock ≠ some b ∧ b ≠ g := fun b hb => by
                    rcases ob b hb with h | h
                    · exact hap b h
                    · exact ⟨fun e => by have := (om.lt e).2; omega, by omega⟩
                  replace hm := RowIs.upd hm hu (show g ≠ r by omega)
                  replace om := om.upd hu hnn hne
                  replace HB := hu.below HB hwr HB.size
                  replace hbz := Nat.le_trans hbz hu.size
                  replace hR := hR'; replace ol := ol'; replace hap := hap'
                  replace BX := Below.refl s90.heap.size s90
                  clear hR' ol' hap' kk ob hu own8 hv8 hnn hne he
                  go_wp2_with fail
                  refine hKL _ _ (show BelS w _ from HB) (fun _ => ?_)
                  clear KL hKL
                  replace hm := RowIs.step hm BX
                  replace om := om.step BX
                  replace hR := hR.step BX
                  replace ol := ol.step BX
                  replace hbz := Nat.le_trans hbz BX.size
                  replace HB := HB.trans (BX.mono HB.size)
                  replace Q1 := Q1.step BX
                  have hst := mstore s90 r83 (u8s D) (by rw [QZ.has, u8s_size, zeros_length]) (by rw [u8s_size, hDl]) (u8s_one D)
                  have nm := om.ne_row QZ (key_no (zeros_length 32))
                  have nl := ol.ne_row QZ (key_no (zeros_length 32))
                  (go_wp2_with (first | (refine wpLexD_skip rfl ?_) | (refine wpLexD_pure0 (by decide) rfl (fun KP hKP => ?_); go_simp; (try go_bits); refine hKP _ _ ?_) | (refine wpLexD_pure (by decide) rfl (fun KP hKP => ?_); go_simp; refine ⟨_, fun w9 hw9 => (by have s1 := ((show Below w.heap.size w w9 from hw9).cell (p := ⟨gl, og + x, none⟩) hgl).trans e1; have s2 := ((show Below w.heap.size w w9 from hw9).cell (p := ⟨gl, og + y, none⟩) hgl).trans e2; go_simp; rfl), ?_⟩; refine hKP _ _ ?_) | (refine wpLexD_loud (by decide) rfl (fun KL hKL => ?_)) | (refine wpLexS_pure0 rfl (fun KP hKP => ?_); go_simp; (try go_bits); refine hKP _ _ ?_) | (refine wpLexS_pure rfl (fun KP hKP => ?_); go_simp; refine ⟨_, fun w9 hw9 => (by have s1 := ((show Below w.heap.size w w9 from hw9).cell (p := ⟨gl, og + x, none⟩) hgl).trans e1; have s2 := ((show Below w.heap.size w w9 from hw9).cell (p := ⟨gl, og + y, none⟩) hgl).trans e2; go_simp; rfl), ?_⟩; refine hKP _ _ ?_) | (refine wpLexS_loud rfl (fun KL hKL => ?_))))
                  have Q2 := QZ.set (u8s D)
                  replace hm := RowIs.set_ne hm (show g ≠ r83 by omega) (u8s D)
                  replace hR := hR.set_ne (show r ≠ r83 by omega) (u8s D)
                  replace om := kpm.setRow nm (u8s D)
                  replace ol := kpl.setRow nl (u8s D)
                  replace HB : Below w.heap.size w (s90.setRow r83 (u8s D)) := below_setRow HB (by omega) _
                  replace hbz : bs ≤ (s90.setRow r83 (u8s D)).heap.size := by simpa [World.setRow] using hbz
                  replace Q1 := Q1.set_ne (show r55 ≠ r83 by omega) (u8s D)
                  refine hKL _ _ (show BelS w _ from HB) (fun _ => ?_)
                  clear KL hKL hst QZ nm nl kpm kpl BX hxr
                  generalize (s90.setRow r83 (u8s D)) = e91 at hm om hR ol HB hbz Q2 Q1 ⊢
                  have L1 := sload Q1 hDl
                  have L2 := sload Q2 hDl
                  go_wp2_with (refine wpLexS_nil ?_)
                  exact ⟨⟨k + 1, n + 1, _, _, by have := HX.out; go_num, by have := HN.out; omega, by have := HY.out; have := HX.out; omega, hm, om, hR, ol, hap, HB, hbz, fun u hu => by
                    rw [HP.out, List.mem_append, List.mem_singleton] at hu
                    rcases hu with h | h
                    · exact hall u h
                    · rw [h, HL12.out]; exact hb12⟩, by simp [intOf]; omega⟩
              · skip
                go_wp2_with fail
                have QZ : RowIs (d58.alloc (.cells (u8s (zeros 32)) 33)) d58.heap.size (u8s (zeros 32)) := RowIs.new _ _ _
                have hxs : d58.heap.size ≤ d58.heap.size := BX.size
                have hq : Below d58.heap.size d58 (d58.alloc (.cells (u8s (zeros 32)) 33)) := (by repeat (first | with_reducible exact Below.refl _ _ | with_reducible assumption | refine Below.drew ?_ | refine below_drewN ?_ | refine Below.alloc ?_ (by first | omega | (simp; done) | (simp; omega)) _ | refine below_setRow ?_ (by omega) _ | refine Below.setCell ?_ (by first | omega | (simp; done) | (simp; omega)) _))
                replace BX := BX.trans (hq.mono BX.size)
                clear hq
                generalize (d58.alloc (.cells (u8s (zeros 32)) 33)) = x92 at BX QZ ⊢
                obtain ⟨r93, hr_⟩ : ∃ k, k = d58.heap.size := ⟨_, rfl⟩
                have hxr : d58.heap.size ≤ r93 := by rw [hr_]; exact hxs
                have hbr : bs ≤ r93 := Nat.le_trans hbz hxr
                have hq1 := Nat.lt_of_lt_of_le (RowIs.lt Q1) hxr
                rw [← hr_] at QZ  ⊢
                clear hr_ hxs
                refine hKL _ _ (show BelS w _ from HB.trans (BX.mono HB.size)) (fun _ => ?_)
                clear KL hKL
                (go_wp2_with (first | (refine wpLexD_skip rfl ?_) | (refine wpLexD_pure0 (by decide) rfl (fun KP hKP => ?_); go_simp; (try go_bits); refine hKP _ _ ?_) | (refine wpLexD_pure (by decide) rfl (fun KP hKP => ?_); go_simp; refine ⟨_, fun w9 hw9 => (by have s1 := ((show Below w.heap.size w w9 from hw9).cell (p := ⟨gl, og + x, none⟩) hgl).trans e1; have s2 := ((show Below w.heap.size w w9 from hw9).cell (p := ⟨gl, og + y, none⟩) hgl).trans e2; go_simp; rfl), ?_⟩; refine hKP _ _ ?_)))
                refine wpLexD_loud (by decide) rfl (fun KL hKL => ?_)
                go_wp2_with fail
                obtain ⟨b94, hb8⟩ : ∃ k, k = x92.heap.size := ⟨_, rfl⟩
                have own8 := Own8.empty (T := 5) (g := b94) x92 (base := d58.heap.size) hb8 BX.size
                have hro : ∀ k, (Value.slice (some ⟨b94, 0, none⟩) 0 0).ownBlock = some k → k ≠ r93 := fun k hk => by have h1 : b94 = k := Option.some.inj hk; have h2 := RowIs.lt QZ; omega
                have hq : Below x92.heap.size x92 (x92.alloc (.cells #[] 5)) := (by repeat (first | with_reducible exact Below.refl _ _ | with_reducible assumption | refine Below.drew ?_ | refine below_drewN ?_ | refine Below.alloc ?_ (by first | omega | (simp; done) | (simp; omega)) _ | refine below_setRow ?_ (by omega) _ | refine Below.setCell ?_ (by first | omega | (simp; done) | (simp; omega)) _))
                replace QZ := QZ.step hq
                replace BX := BX.trans (hq.mono BX.size)
                clear hq
                generalize (x92.alloc (.cells #[] 5)) = x95 at BX QZ own8 ⊢
                rw [← hb8]
                clear hb8
                refine hKL _ _ (show BelS w _ from HB.trans (BX.mono HB.size)) (fun _ => ?_)
                clear KL hKL
                (go_wp2_with (first | (refine wpLexD_skip rfl ?_) | (refine wpLexD_pure0 (by decide) rfl (fun KP hKP => ?_); go_simp; (try go_bits); refine hKP _ _ ?_) | (refine wpLexD_pure (by decide) rfl (fun KP hKP => ?_); go_simp; refine ⟨_, fun w9 hw9 => (by have s1 := ((show Below w.heap.size w w9 from hw9).cell (p := ⟨gl, og + x, none⟩) hgl).trans e1; have s2 := ((show Below w.heap.size w w9 from hw9).cell (p := ⟨gl, og + y, none⟩) hgl).trans e2; go_simp; rfl), ?_⟩; refine hKP _ _ ?_)))
                refine wpLexD_loud (by decide) rfl (fun KL hKL => ?_)
                have hbW := hb1.step (HB.trans (BX.mono HB.size))
                refine wpList_appendBsX Tryd.underlying27 Tryd.info8 rfl (.tmp 71) (.tmp 75) rfl d58.heap.size rfl own8 rfl hbW (List.nil_append _) HL1.out (by omega) BX.size ?_
                intro A896 c897 x98 own9 gr9 ob9
                have hqlt := RowIs.lt QZ
                replace QZ := QZ.grown gr9 (fun e => hro _ e rfl)
                replace hro : ∀ k, (Value.slice A896 n1 c897).ownBlock = some k → k ≠ r93 := fun k hk => by
                  rcases ob9 k hk with h | h
                  · exact hro k h
                  · omega
                clear hqlt
                have bel9 := below_append (Below.refl d58.heap.size x95) own8 gr9 (Nat.le_refl _) BX.size
                replace BX := BX.trans bel9
                replace own8 := own9
                clear own9 gr9 ob9 bel9 hbW
                go_wp2_with fail
                refine hKL _ _ (show BelS w _ from HB.trans (BX.mono HB.size)) (fun _ => ?_)
                clear KL hKL
                (go_wp2_with (first | (refine wpLexD_skip rfl ?_) | (refine wpLexD_pure0 (by decide) rfl (fun KP hKP => ?_); go_simp; (try go_bits); refine hKP _ _ ?_) | (refine wpLexD_pure (by decide) rfl (fun KP hKP => ?_); go_simp; refine ⟨_, fun w9 hw9 => (by have s1 := ((show Below w.heap.size w w9 from hw9).cell (p := ⟨gl, og + x, none⟩) hgl).trans e1; have s2 := ((show Below w.heap.size w w9 from hw9).cell (p := ⟨gl, og + y, none⟩) hgl).trans e2; go_simp; rfl), ?_⟩; refine hKP _ _ ?_)))
                refine wpLexD_loud (by decide) rfl (fun KL hKL => ?_)
                have hbW := hb2.step (HB.trans (BX.mono HB.size))
                refine wpList_appendBsX Tryd.underlying27 Tryd.info8 rfl (.tmp 76) (.tmp 81) rfl d58.heap.size rfl own8 rfl hbW (rfl) HL12.out (by omega) BX.size ?_
                intro A899 c8100 x101 own9 gr9 ob9
                have hqlt := RowIs.lt QZ
                replace QZ := QZ.grown gr9 (fun e => hro _ e rfl)
                replace hro : ∀ k, (Value.slice A899 n12 c8100).ownBlock = some k → k ≠ r93 := fun k hk => by
                  rcases ob9 k hk with h | h
                  · exact hro k h
                  · omega
                clear hqlt
                have bel9 := below_append (Below.refl d58.heap.size x98) own8 gr9 (Nat.le_refl _) BX.size
                replace BX := BX.trans bel9
                replace own8 := own9
                clear own9 gr9 ob9 bel9 hbW
                go_wp2_with fail
                refine hKL _ _ (show BelS w _ from HB.trans (BX.mono HB.size)) (fun _ => ?_)
                clear KL hKL
                (go_wp2_with (first | (refine wpLexD_skip rfl ?_) | (refine wpLexD_pure0 (by decide) rfl (fun KP hKP => ?_); go_simp; (try go_bits); refine hKP _ _ ?_) | (refine wpLexD_pure (by decide) rfl (fun KP hKP => ?_); go_simp; refine ⟨_, fun w9 hw9 => (by have s1 := ((show Below w.heap.size w w9 from hw9).cell (p := ⟨gl, og + x, none⟩) hgl).trans e1; have s2 := ((show Below w.heap.size w w9 from hw9).cell (p := ⟨gl, og + y, none⟩) hgl).trans e2; go_simp; rfl), ?_⟩; refine hKP _ _ ?_)))
                refine wpLexD_loud (by decide) rfl (fun KL hKL => ?_)
                go_wp2_with fail
                have kpm := (Kept.of om hxr).step BX
                have kpl := (Kept.of ol hxr).step BX
                replace hm := RowIs.step hm BX
                replace om := om.step BX
                replace hR := hR.step BX
                replace ol := ol.step BX
                replace Q1 := Q1.step BX
                replace hbz := Nat.le_trans hbz BX.size
                replace HB := HB.trans (BX.mono HB.size)
                have he := he0.step HB
                have hv8 := own8.bsN HL12.out (by omega)
                have hnn := log_no8 hR ol
                have hne : vm'.ownBlock ≠ some r := fun e => by have := (om.lt e).1; omega
                refine (ML.out _ _ _ hR ol hbz hv8).mono ?_
                rintro e s102 ⟨rfl, ⟨vl', hR', ol', kk, ob⟩, hu⟩
                replace kpl := kk r93 (RowIs.lt QZ) kpl
                replace kpm := kpm.upd hu hnn hne
                replace QZ := QZ.upd hu (show r93 ≠ r by omega)
                replace Q1 := Q1.upd hu (show r55 ≠ r by omega)
                have hap' : ∀ b, vl'.ownBlock = some b → vm'.ownBlock ≠ some b ∧ b ≠ g := fun b hb => by
                  rcases ob b hb with h | h
                  · exact hap b h
                  · exact ⟨fun e => by have := (om.lt e).2; omega, by omega⟩
                replace hm := RowIs.upd hm hu (show g ≠ r by omega)
                replace om := om.upd hu hnn hne
                replace HB := hu.below HB hwr HB.size
                replace hbz := Nat.le_trans hbz hu.size
                replace hR := hR'; replace ol := ol'; replace hap := hap'
                replace BX := Below.refl s102.heap.size s102
                clear hR' ol' hap' kk ob hu own8 hv8 hnn hne he
                go_wp2_with fail
                refine hKL _ _ (show BelS w _ from HB) (fun _ => ?_)
                clear KL hKL
                replace hm := RowIs.step hm BX
                replace om := om.step BX
                replace hR := hR.step BX
                replace ol := ol.step BX
                replace hbz := Nat.le_trans hbz BX.size
                replace HB := HB.trans (BX.mono HB.size)
                replace Q1 := Q1.step BX
                have hst := mstore s102 r93 (u8s D) (by rw [QZ.has, u8s_size, zeros_length]) (by rw [u8s_size, hDl]) (u8s_one D)
                have nm := om.ne_row QZ (key_no (zeros_length 32))
                have nl := ol.ne_row QZ (key_no (zeros_length 32))
                (go_wp2_with (first | (refine wpLexD_skip rfl ?_) | (refine wpLexD_pure0 (by decide) rfl (fun KP hKP => ?_); go_simp; (try go_bits); refine hKP _ _ ?_) | (refine wpLexD_pure (by decide) rfl (fun KP hKP => ?_); go_simp; refine ⟨_, fun w9 hw9 => (by have s1 := ((show Below w.heap.size w w9 from hw9).cell (p := ⟨gl, og + x, none⟩) hgl).trans e1; have s2 := ((show Below w.heap.size w w9 from hw9).cell (p := ⟨gl, og + y, none⟩) hgl).trans e2; go_simp; rfl), ?_⟩; refine hKP _ _ ?_) | (refine wpLexD_loud (by decide) rfl (fun KL hKL => ?_)) | (refine wpLexS_pure0 rfl (fun KP hKP => ?_); go_simp; (try go_bits); refine hKP _ _ ?_) | (refine wpLexS_pure rfl (fun KP hKP => ?_); go_simp; refine ⟨_, fun w9 hw9 => (by have s1 := ((show Below w.heap.size w w9 from hw9).cell (p := ⟨gl, og + x, none⟩) hgl).trans e1; have s2 := ((show Below w.heap.size w w9 from hw9).cell (p := ⟨gl, og + y, none⟩) hgl).trans e2; go_simp; rfl), ?_⟩; refine hKP _ _ ?_) | (refine wpLexS_loud rfl (fun KL hKL => ?_))))
                have Q2 := QZ.set (u8s D)
                replace hm := RowIs.set_ne hm (show g ≠ r93 by omega) (u8s D)
                replace hR := hR.set_ne (show r ≠ r93 by omega) (u8s D)
                replace om := kpm.setRow nm (u8s D)
                replace ol := kpl.setRow nl (u8s D)
                replace HB : Below w.heap.size w (s102.setRow r93 (u8s D)) := below_setRow HB (by omega) _
                replace hbz : bs ≤ (s102.setRow r93 (u8s D)).heap.size := by simpa [World.setRow] using hbz
                replace Q1 := Q1.set_ne (show r55 ≠ r93 by omega) (u8s D)
                refine hKL _ _ (show BelS w _ from HB) (fun _ => ?_)
                clear KL hKL hst QZ nm nl kpm kpl BX hxr
                generalize (s102.setRow r93 (u8s D)) = e103 at hm om hR ol HB hbz Q2 Q1 ⊢
                have L1 := sload Q1 hDl
                have L2 := sload Q2 hDl
                go_wp2_with (refine wpLexS_nil ?_)
                exact ⟨⟨k + 1, n + 1, _, _, by have := HX.out; go_num, by have := HN.out; omega, by have := HY.out; have := HX.out; omega, hm, om, hR, ol, hap, HB, hbz, fun u hu => by
                  rw [HP.out, List.mem_append, List.mem_singleton] at hu
                  rcases hu with h | h
                  · exact hall u h
                  · rw [h, HL12.out]; exact hb12⟩, by simp [intOf]; omega⟩
          · skip
            go_wp2_with fail
            have QZ : RowIs (d1.alloc (.cells (u8s (zeros 32)) 33)) d1.heap.size (u8s (zeros 32)) := RowIs.new _ _ _
            have hxs : d1.heap.size ≤ d1.heap.size := BX.size
            have hq : Below d1.heap.size d1 (d1.alloc (.cells (u8s (zeros 32)) 33)) := (by repeat (first | with_reducible exact Below.refl _ _ | with_reducible assumption | refine Below.drew ?_ | refine below_drewN ?_ | refine Below.alloc ?_ (by first | omega | (simp; done) | (simp; omega)) _ | refine below_setRow ?_ (by omega) _ | refine Below.setCell ?_ (by first | omega | (simp; done) | (simp; omega)) _))
            replace BX := BX.trans (hq.mono BX.size)
            clear hq
            generalize (d1.alloc (.cells (u8s (zeros 32)) 33)) = x104 at BX QZ ⊢
            obtain ⟨r105, hr_⟩ : ∃ k, k = d1.heap.size := ⟨_, rfl⟩
            have hxr : d1.heap.size ≤ r105 := by rw [hr_]; exact hxs
            have hbr : bs ≤ r105 := Nat.le_trans hbz hxr
            rw [← hr_] at QZ  ⊢
            clear hr_ hxs
            refine hKL _ _ (show BelS w _ from HB.trans (BX.mono HB.size)) (fun _ => ?_)
            clear KL hKL
            (go_wp2_with (first | (refine wpLexD_skip rfl ?_) | (refine wpLexD_pure0 (by decide) rfl (fun KP hKP => ?_); go_simp; (try go_bits); refine hKP _ _ ?_) | (refine wpLexD_pure (by decide) rfl (fun KP hKP => ?_); go_simp; refine ⟨_, fun w9 hw9 => (by have s1 := ((show Below w.heap.size w w9 from hw9).cell (p := ⟨gl, og + x, none⟩) hgl).trans e1; have s2 := ((show Below w.heap.size w w9 from hw9).cell (p := ⟨gl, og + y, none⟩) hgl).trans e2; go_simp; rfl), ?_⟩; refine hKP _ _ ?_)))
            refine wpLexD_loud (by decide) rfl (fun KL hKL => ?_)
            go_wp2_with fail
            have HBW := HB.trans (BX.mono HB.size)
            have LL := BsL.lit2 (gg := x104.heap.size) 27 rfl (hb1.step HBW) (hb2.step HBW)
            have hq : Below x104.heap.size x104 (x104.alloc (.cells #[.slice A1 n1 c1, .slice A2 n2 c2] 27)) := (by repeat (first | with_reducible exact Below.refl _ _ | with_reducible assumption | refine Below.drew ?_ | refine below_drewN ?_ | refine Below.alloc ?_ (by first | omega | (simp; done) | (simp; omega)) _ | refine below_setRow ?_ (by omega) _ | refine Below.setCell ?_ (by first | omega | (simp; done) | (simp; omega)) _))
            replace QZ := QZ.step hq
            replace BX := BX.trans (hq.mono BX.size)
            clear hq
            generalize (x104.alloc (.cells #[.slice A1 n1 c1, .slice A2 n2 c2] 27)) = x106 at BX QZ LL ⊢
            obtain ⟨l107, hl_⟩ : ∃ k, k = x104.heap.size := ⟨_, rfl⟩
            rw [← hl_] at LL ⊢
            clear hl_ HBW
            refine hKL _ _ (show BelS w _ from HB.trans (BX.mono HB.size)) (fun _ => ?_)
            clear KL hKL
            (go_wp2_with (first | (refine wpLexD_skip rfl ?_) | (refine wpLexD_pure0 (by decide) rfl (fun KP hKP => ?_); go_simp; (try go_bits); refine hKP _ _ ?_) | (refine wpLexD_pure (by decide) rfl (fun KP hKP => ?_); go_simp; refine ⟨_, fun w9 hw9 => (by have s1 := ((show Below w.heap.size w w9 from hw9).cell (p := ⟨gl, og + x, none⟩) hgl).trans e1; have s2 := ((show Below w.heap.size w w9 from hw9).cell (p := ⟨gl, og + y, none⟩) hgl).trans e2; go_simp; rfl), ?_⟩; refine hKP _ _ ?_)))
            refine wpLexD_loud (by decide) rfl (fun KL hKL => ?_)
            go_wp2_with fail
            have kpm := (Kept.of om hxr).step BX
            have kpl := (Kept.of ol hxr).step BX
            replace hm := RowIs.step hm BX
            replace om := om.step BX
            replace hR := hR.step BX
            replace ol := ol.step BX
            skip
            replace hbz := Nat.le_trans hbz BX.size
            replace HB := HB.trans (BX.mono HB.size)
            have he := he0.step HB
            refine (M.out _ _ _ hm om hbz LL he).mono ?_
            rintro e s108 ⟨rfl, ⟨vm', hm', om', kk, ob⟩, ks, ko⟩
            replace hR := ks.row r _ hR (by omega) (by simp [isSl])
            replace kpm := kk r105 (RowIs.lt QZ) kpm
            replace kpl := ko r105 _ _ _ kpl hap
            replace QZ := ks.row r105 _ QZ (by omega) (key_no (zeros_length 32))
            have hap' : ∀ b, vl.ownBlock = some b → vm'.ownBlock ≠ some b ∧ b ≠ g := fun b hb => ⟨fun e => by
              rcases ob b e with h | h
              · exact (hap b hb).1 h
              · have := (ol.lt hb).2; omega, (hap b hb).2⟩
            replace ol := ko.own ol hap
            replace HB := HB.trans (ks.below _ hwb hwg)
            replace hbz := Nat.le_trans hbz ks.size
            replace hm := hm'; replace om := om'; replace hap := hap'
            replace BX := Below.refl s108.heap.size s108
            clear hm' om' hap' kk ob ks ko LL he
            go_wp2_with fail
            refine hKL _ _ (show BelS w _ from HB) (fun _ => ?_)
            clear KL hKL
            replace hm := RowIs.step hm BX
            replace om := om.step BX
            replace hR := hR.step BX
            replace ol := ol.step BX
            replace hbz := Nat.le_trans hbz BX.size
            replace HB := HB.trans (BX.mono HB.size)
            have hst := mstore s108 r105 (u8s D) (by rw [QZ.has, u8s_size, zeros_length]) (by rw [u8s_size, hDl]) (u8s_one D)
            have nm := om.ne_row QZ (key_no (zeros_length 32))
            have nl := ol.ne_row QZ (key_no (zeros_length 32))
            (go_wp2_with (first | (refine wpLexD_skip rfl ?_) | (refine wpLexD_pure0 (by decide) rfl (fun KP hKP => ?_); go_simp; (try go_bits); refine hKP _ _ ?_) | (refine wpLexD_pure (by decide) rfl (fun KP hKP => ?_); go_simp; refine ⟨_, fun w9 hw9 => (by have s1 := ((show Below w.heap.size w w9 from hw9).cell (p := ⟨gl, og + x, none⟩) hgl).trans e1; have s2 := ((show Below w.heap.size w w9 from hw9).cell (p := ⟨gl, og + y, none⟩) hgl).trans e2; go_simp; rfl), ?_⟩; refine hKP _ _ ?_) | (refine wpLexD_loud (by decide) rfl (fun KL hKL => ?_)) | (refine wpLexS_pure0 rfl (fun KP hKP => ?_); go_simp; (try go_bits); refine hKP _ _ ?_) | (refine wpLexS_pure rfl (fun KP hKP => ?_); go_simp; refine ⟨_, fun w9 hw9 => (by have s1 := ((show Below w.heap.size w w9 from hw9).cell (p := ⟨gl, og + x, none⟩) hgl).trans e1; have s2 := ((show Below w.heap.size w w9 from hw9).cell (p := ⟨gl, og + y, none⟩) hgl).trans e2; go_simp; rfl), ?_⟩; refine hKP _ _ ?_) | (refine wpLexS_loud rfl (fun KL hKL => ?_))))
            have Q1 := QZ.set (u8s D)
            replace hm := RowIs.set_ne hm (show g ≠ r105 by omega) (u8s D)
            replace hR := hR.set_ne (show r ≠ r105 by omega) (u8s D)
            replace om := kpm.setRow nm (u8s D)
            replace ol := kpl.setRow nl (u8s D)
            replace HB : Below w.heap.size w (s108.setRow r105 (u8s D)) := below_setRow HB (by omega) _
            replace hbz : bs ≤ (s108.setRow r105 (u8s D)).heap.size := by simpa [World.setRow] using hbz
            refine hKL _ _ (show BelS w _ from HB) (fun _ => ?_)
            clear KL hKL hst QZ nm nl kpm kpl BX hxr
            generalize (s108.setRow r105 (u8s D)) = e109 at hm om hR ol HB hbz Q1  ⊢
            go_wp2_with (refine wpLexS_nil ?_)
            have BX : Below (e109).heap.size (e109) (e109).drew := (by repeat (first | with_reducible exact Below.refl _ _ | with_reducible assumption | refine Below.drew ?_ | refine below_drewN ?_ | refine Below.alloc ?_ (by first | omega | (simp; done) | (simp; omega)) _ | refine below_setRow ?_ (by omega) _ | refine Below.setCell ?_ (by first | omega | (simp; done) | (simp; omega)) _))
            replace hm := RowIs.step hm BX
            replace om := om.step BX
            replace hR := hR.step BX
            replace ol := ol.step BX
            replace hbz := Nat.le_trans hbz BX.size
            replace HB := HB.trans (BX.mono HB.size)
            replace Q1 := Q1.step BX
            refine wp_region_lexF [] [5, 11] 14 _ (BelS w) rfl (by kernel_rfl) (by decide +kernel) (show BelS w _ from HB) (fun _ => ?_)
            clear BX
            generalize (e109).drew = d110 at hm om hR ol hbz HB Q1 ⊢
            have BX := Below.refl d110.heap.size d110
            (go_wp2_with (first | (refine wpLexF_here rfl ?_) | (refine wpLexF_pure0 (by decide) rfl (fun KP hKP => ?_); go_simp; (try go_bits); refine hKP _ _ ?_) | (refine wpLexF_pure (by decide) rfl (fun KP hKP => ?_); go_simp; refine ⟨_, fun w9 hw9 => (by have s1 := ((show Below w.heap.size w w9 from hw9).cell (p := ⟨gl, og + x, none⟩) hgl).trans e1; have s2 := ((show Below w.heap.size w w9 from hw9).cell (p := ⟨gl, og + y, none⟩) hgl).trans e2; go_simp; rfl), ?_⟩; refine hKP _ _ ?_)))
            refine wpLexF_loud (by decide) rfl (fun KL hKL => ?_) (fun KL hKL => ?_)
            · skip
              go_wp2_with fail
              obtain ⟨b111, hb8⟩ : ∃ k, k = d110.heap.size := ⟨_, rfl⟩
              have own8 := Own8.empty (T := 5) (g := b111) d110 (base := d110.heap.size) hb8 BX.size
              have hq : Below d110.heap.size d110 (d110.alloc (.cells #[] 5)) := (by repeat (first | with_reducible exact Below.refl _ _ | with_reducible assumption | refine Below.drew ?_ | refine below_drewN ?_ | refine Below.alloc ?_ (by first | omega | (simp; done) | (simp; omega)) _ | refine below_setRow ?_ (by omega) _ | refine Below.setCell ?_ (by first | omega | (simp; done) | (simp; omega)) _))
              replace BX := BX.trans (hq.mono BX.size)
              clear hq
              generalize (d110.alloc (.cells #[] 5)) = x112 at BX own8 ⊢
              rw [← hb8]
              clear hb8
              refine hKL _ _ (show BelS w _ from HB.trans (BX.mono HB.size)) (fun _ => ?_)
              clear KL hKL
              (go_wp2_with (first | (refine wpLexF_here rfl ?_) | (refine wpLexF_pure0 (by decide) rfl (fun KP hKP => ?_); go_simp; (try go_bits); refine hKP _ _ ?_) | (refine wpLexF_pure (by decide) rfl (fun KP hKP => ?_); go_simp; refine ⟨_, fun w9 hw9 => (by have s1 := ((show Below w.heap.size w w9 from hw9).cell (p := ⟨gl, og + x, none⟩) hgl).trans e1; have s2 := ((show Below w.heap.size w w9 from hw9).cell (p := ⟨gl, og + y, none⟩) hgl).trans e2; go_simp; rfl), ?_⟩; refine hKP _ _ ?_)))
              refine wpLexF_loud (by decide) rfl (fun KL hKL => ?_) (fun KL hKL => ?_)
              · skip
                have hbW := hb1.step (HB.trans (BX.mono HB.size))
                refine wpList_appendBsX Tryd.underlying27 Tryd.info8 rfl (.tmp 71) (.tmp 75) rfl d110.heap.size rfl own8 rfl hbW (List.nil_append _) HL1.out (by omega) BX.size ?_
                intro A8113 c8114 x115 own9 gr9 ob9
                have bel9 := below_append (Below.refl d110.heap.size x112) own8 gr9 (Nat.le_refl _) BX.size
                replace BX := BX.trans bel9
                replace own8 := own9
                clear own9 gr9 ob9 bel9 hbW
                go_wp2_with fail
                refine hKL _ _ (show BelS w _ from HB.trans (BX.mono HB.size)) (fun _ => ?_)
                clear KL hKL
                (go_wp2_with (first | (refine wpLexF_here rfl ?_) | (refine wpLexF_pure0 (by decide) rfl (fun KP hKP => ?_); go_simp; (try go_bits); refine hKP _ _ ?_) | (refine wpLexF_pure (by decide) rfl (fun KP hKP => ?_); go_simp; refine ⟨_, fun w9 hw9 => (by have s1 := ((show Below w.heap.size w w9 from hw9).cell (p := ⟨gl, og + x, none⟩) hgl).trans e1; have s2 := ((show Below w.heap.size w w9 from hw9).cell (p := ⟨gl, og + y, none⟩) hgl).trans e2; go_simp; rfl), ?_⟩; refine hKP _ _ ?_)))
                refine wpLexF_loud (by decide) rfl (fun KL hKL => ?_) (fun KL hKL => ?_)
                · skip
                  have hbW := hb2.step (HB.trans (BX.mono HB.size))
                  refine wpList_appendBsX Tryd.underlying27 Tryd.info8 rfl (.tmp 76) (.tmp 81) rfl d110.heap.size rfl own8 rfl hbW (rfl) HL12.out (by omega) BX.size ?_
                  intro A8116 c8117 x118 own9 gr9 ob9
                  have bel9 := below_append (Below.refl d110.heap.size x115) own8 gr9 (Nat.le_refl _) BX.size
                  replace BX := BX.trans bel9
                  replace own8 := own9
                  clear own9 gr9 ob9 bel9 hbW
                  go_wp2_with fail
                  refine hKL _ _ (show BelS w _ from HB.trans (BX.mono HB.size)) (fun _ => ?_)
                  clear KL hKL
                  (go_wp2_with (first | (refine wpLexF_here rfl ?_) | (refine wpLexF_pure0 (by decide) rfl (fun KP hKP => ?_); go_simp; (try go_bits); refine hKP _ _ ?_) | (refine wpLexF_pure (by decide) rfl (fun KP hKP => ?_); go_simp; refine ⟨_, fun w9 hw9 => (by have s1 := ((show Below w.heap.size w w9 from hw9).cell (p := ⟨gl, og + x, none⟩) hgl).trans e1; have s2 := ((show Below w.heap.size w w9 from hw9).cell (p := ⟨gl, og + y, none⟩) hgl).trans e2; go_simp; rfl), ?_⟩; refine hKP _ _ ?_)))
                  refine wpLexF_loud (by decide) rfl (fun KL hKL => ?_) (fun KL hKL => ?_)
                  · skip
                    go_wp2_with fail
                    replace hm := RowIs.step hm BX
                    replace om := om.step BX
                    replace hR := hR.step BX
                    replace ol := ol.step BX
                    replace Q1 := Q1.step BX
                    replace hbz := Nat.le_trans hbz BX.size
                    replace HB := HB.trans (BX.mono HB.size)
                    have he := he0.step HB
                    have hv8 := own8.bsN HL12.out (by omega)
                    have hnn := log_no8 hR ol
                    have hne : vm'.ownBlock ≠ some r := fun e => by have := (om.lt e).1; omega
                    refine (ML.out _ _ _ hR ol hbz hv8).mono ?_
                    rintro e s119 ⟨rfl, ⟨vl', hR', ol', kk, ob⟩, hu⟩
                    replace Q1 := Q1.upd hu (show r105 ≠ r by omega)
                    have hap' : ∀ b, vl'.ownBlock = some b → vm'.ownBlock ≠ some b ∧ b ≠ g := fun b hb => by
                      rcases ob b hb with h | h
                      · exact hap b h
                      · exact ⟨fun e => by have := (om.lt e).2; omega, by omega⟩
                    replace hm := RowIs.upd hm hu (show g ≠ r by omega)
                    replace om := om.upd hu hnn hne
                    replace HB := hu.below HB hwr HB.size
                    replace hbz := Nat.le_trans hbz hu.size
                    replace hR := hR'; replace ol := ol'; replace hap := hap'
                    replace BX := Below.refl s119.heap.size s119
                    clear hR' ol' hap' kk ob hu own8 hv8 hnn hne he
                    go_wp2_with fail
                    refine hKL _ _ (show BelS w _ from HB) (fun _ => ?_)
                    clear KL hKL
                    (go_wp2_with (first | (refine wpLexF_here rfl ?_) | (refine wpLexF_pure0 (by decide) rfl (fun KP hKP => ?_); go_simp; (try go_bits); refine hKP _ _ ?_) | (refine wpLexF_pure (by decide) rfl (fun KP hKP => ?_); go_simp; refine ⟨_, fun w9 hw9 => (by have s1 := ((show Below w.heap.size w w9 from hw9).cell (p := ⟨gl, og + x, none⟩) hgl).trans e1; have s2 := ((show Below w.heap.size w w9 from hw9).cell (p := ⟨gl, og + y, none⟩) hgl).trans e2; go_simp; rfl), ?_⟩; refine hKP _ _ ?_)))
                    (go_wp2_with (first | (refine wpLexD_skip rfl ?_) | (refine wpLexD_pure0 (by decide) rfl (fun KP hKP => ?_); go_simp; (try go_bits); refine hKP _ _ ?_) | (refine wpLexD_pure (by decide) rfl (fun KP hKP => ?_); go_simp; refine ⟨_, fun w9 hw9 => (by have s1 := ((show Below w.heap.size w w9 from hw9).cell (p := ⟨gl, og + x, none⟩) hgl).trans e1; have s2 := ((show Below w.heap.size w w9 from hw9).cell (p := ⟨gl, og + y, none⟩) hgl).trans e2; go_simp; rfl), ?_⟩; refine hKP _ _ ?_) | (refine wpLexD_loud (by decide) rfl (fun KL hKL => ?_)) | (refine wpLexS_pure0 rfl (fun KP hKP => ?_); go_simp; (try go_bits); refine hKP _ _ ?_) | (refine wpLexS_pure rfl (fun KP hKP => ?_); go_simp; refine ⟨_, fun w9 hw9 => (by have s1 := ((show Below w.heap.size w w9 from hw9).cell (p := ⟨gl, og + x, none⟩) hgl).trans e1; have s2 := ((show Below w.heap.size w w9 from hw9).cell (p := ⟨gl, og + y, none⟩) hgl).trans e2; go_simp; rfl), ?_⟩; refine hKP _ _ ?_) | (refine wpLexS_loud rfl (fun KL hKL => ?_))))
                    have QZ : RowIs (s119.alloc (.cells (u8s (zeros 32)) 33)) s119.heap.size (u8s (zeros 32)) := RowIs.new _ _ _
                    have hxs : s119.heap.size ≤ s119.heap.size := BX.size
                    have hq : Below s119.heap.size s119 (s119.alloc (.cells (u8s (zeros 32)) 33)) := (by repeat (first | with_reducible exact Below.refl _ _ | with_reducible assumption | refine Below.drew ?_ | refine below_drewN ?_ | refine Below.alloc ?_ (by first | omega | (simp; done) | (simp; omega)) _ | refine below_setRow ?_ (by omega) _ | refine Below.setCell ?_ (by first | omega | (simp; done) | (simp; omega)) _))
                    replace BX := BX.trans (hq.mono BX.size)
                    clear hq
                    generalize (s119.alloc (.cells (u8s (zeros 32)) 33)) = x120 at BX QZ ⊢
                    obtain ⟨r121, hr_⟩ : ∃ k, k = s119.heap.size := ⟨_, rfl⟩
                    have hxr : s119.heap.size ≤ r121 := by rw [hr_]; exact hxs
                    have hbr : bs ≤ r121 := Nat.le_trans hbz hxr
                    have hq1 := Nat.lt_of_lt_of_le (RowIs.lt Q1) hxr
                    rw [← hr_] at QZ  ⊢
                    clear hr_ hxs
                    refine hKL _ _ (show BelS w _ from HB.trans (BX.mono HB.size)) (fun _ => ?_)
                    clear KL hKL
                    have kpm := (Kept.of om hxr).step BX
                    have kpl := (Kept.of ol hxr).step BX
                    replace hm := RowIs.step hm BX
                    replace om := om.step BX
                    replace hR := hR.step BX
                    replace ol := ol.step BX
                    replace hbz := Nat.le_trans hbz BX.size
                    replace HB := HB.trans (BX.mono HB.size)
                    replace Q1 := Q1.step BX
                    have hst := mstore x120 r121 (u8s D) (by rw [QZ.has, u8s_size, zeros_length]) (by rw [u8s_size, hDl]) (u8s_one D)
                    have nm := om.ne_row QZ (key_no (zeros_length 32))
                    have nl := ol.ne_row QZ (key_no (zeros_length 32))
                    (go_wp2_with (first | (refine wpLexD_skip rfl ?_) | (refine wpLexD_pure0 (by decide) rfl (fun KP hKP => ?_); go_simp; (try go_bits); refine hKP _ _ ?_) | (refine wpLexD_pure (by decide) rfl (fun KP hKP => ?_); go_simp; refine ⟨_, fun w9 hw9 => (by have s1 := ((show Below w.heap.size w w9 from hw9).cell (p := ⟨gl, og + x, none⟩) hgl).trans e1; have s2 := ((show Below w.heap.size w w9 from hw9).cell (p := ⟨gl, og + y, none⟩) hgl).trans e2; go_simp; rfl), ?_⟩; refine hKP _ _ ?_) | (refine wpLexD_loud (by decide) rfl (fun KL hKL => ?_)) | (refine wpLexS_pure0 rfl (fun KP hKP => ?_); go_simp; (try go_bits); refine hKP _ _ ?_) | (refine wpLexS_pure rfl (fun KP hKP => ?_); go_simp; refine ⟨_, fun w9 hw9 => (by have s1 := ((show Below w.heap.size w w9 from hw9).cell (p := ⟨gl, og + x, none⟩) hgl).trans e1; have s2 := ((show Below w.heap.size w w9 from hw9).cell (p := ⟨gl, og + y, none⟩) hgl).trans e2; go_simp; rfl), ?_⟩; refine hKP _ _ ?_) | (refine wpLexS_loud rfl (fun KL hKL => ?_))))
                    have Q2 := QZ.set (u8s D)
                    replace hm := RowIs.set_ne hm (show g ≠ r121 by omega) (u8s D)
                    replace hR := hR.set_ne (show r ≠ r121 by omega) (u8s D)
                    replace om := kpm.setRow nm (u8s D)
                    replace ol := kpl.setRow nl (u8s D)
                    replace HB : Below w.heap.size w (x120.setRow r121 (u8s D)) := below_setRow HB (by omega) _
                    replace hbz : bs ≤ (x120.setRow r121 (u8s D)).heap.size := by simpa [World.setRow] using hbz
                    replace Q1 := Q1.set_ne (show r105 ≠ r121 by omega) (u8s D)
                    refine hKL _ _ (show BelS w _ from HB) (fun _ => ?_)
                    clear KL hKL hst QZ nm nl kpm kpl BX hxr
                    generalize (x120.setRow r121 (u8s D)) = e122 at hm om hR ol HB hbz Q2 Q1 ⊢
                    have L1 := sload Q1 hDl
                    have L2 := sload Q2 hDl
                    go_wp2_with (refine wpLexS_nil ?_)
                    exact ⟨⟨k + 1, n + 1, _, _, by have := HX.out; go_num, by have := HN.out; omega, by have := HY.out; have := HX.out; omega, hm, om, hR, ol, hap, HB, hbz, fun u hu => by
                      rw [HP.out, List.mem_append, List.mem_singleton] at hu
                      rcases hu with h | h
                      · exact hall u h
                      · rw [h, HL12.out]; exact hb12⟩, by simp [intOf]; omega⟩
                  · skip
                    go_wp2_with fail
                    have hro : ∀ k, (Value.slice A8116 n12 c8117).ownBlock = some k → k ≠ x118.heap.size := fun k hk => by have := (own8lt own8 hk).2; omega
                    have QZ : RowIs (x118.alloc (.cells (u8s (zeros 32)) 33)) x118.heap.size (u8s (zeros 32)) := RowIs.new _ _ _
                    have hxs : d110.heap.size ≤ x118.heap.size := BX.size
                    have hq : Below x118.heap.size x118 (x118.alloc (.cells (u8s (zeros 32)) 33)) := (by repeat (first | with_reducible exact Below.refl _ _ | with_reducible assumption | refine Below.drew ?_ | refine below_drewN ?_ | refine Below.alloc ?_ (by first | omega | (simp; done) | (simp; omega)) _ | refine below_setRow ?_ (by omega) _ | refine Below.setCell ?_ (by first | omega | (simp; done) | (simp; omega)) _))
                    replace own8 := own8.step hq
                    replace BX := BX.trans (hq.mono BX.size)
                    clear hq
                    generalize (x118.alloc (.cells (u8s (zeros 32)) 33)) = x123 at BX own8 QZ ⊢
                    obtain ⟨r124, hr_⟩ : ∃ k, k = x118.heap.size := ⟨_, rfl⟩
                    have hxr : d110.heap.size ≤ r124 := by rw [hr_]; exact hxs
                    have hbr : bs ≤ r124 := Nat.le_trans hbz hxr
                    have hq1 := Nat.lt_of_lt_of_le (RowIs.lt Q1) hxr
                    rw [← hr_] at QZ hro ⊢
                    clear hr_ hxs
                    refine hKL _ _ (show BelS w _ from HB.trans (BX.mono HB.size)) (fun _ => ?_)
                    clear KL hKL
                    (go_wp2_with (first | (refine wpLexD_skip rfl ?_) | (refine wpLexD_pure0 (by decide) rfl (fun KP hKP => ?_); go_simp; (try go_bits); refine hKP _ _ ?_) | (refine wpLexD_pure (by decide) rfl (fun KP hKP => ?_); go_simp; refine ⟨_, fun w9 hw9 => (by have s1 := ((show Below w.heap.size w w9 from hw9).cell (p := ⟨gl, og + x, none⟩) hgl).trans e1; have s2 := ((show Below w.heap.size w w9 from hw9).cell (p := ⟨gl, og + y, none⟩) hgl).trans e2; go_simp; rfl), ?_⟩; refine hKP _ _ ?_)))
                    refine wpLexD_loud (by decide) rfl (fun KL hKL => ?_)
                    go_wp2_with fail
                    have kpm := (Kept.of om hxr).step BX
                    have kpl := (Kept.of ol hxr).step BX
                    replace hm := RowIs.step hm BX
                    replace om := om.step BX
                    replace hR := hR.step BX
                    replace ol := ol.step BX
                    replace Q1 := Q1.step BX
                    replace hbz := Nat.le_trans hbz BX.size
                    replace HB := HB.trans (BX.mono HB.size)
                    have he := he0.step HB
                    have hv8 := own8.bsN HL12.out (by omega)
                    have hnn := log_no8 hR ol
                    have hne : vm'.ownBlock ≠ some r := fun e => by have := (om.lt e).1; omega
                    refine (ML.out _ _ _ hR ol hbz hv8).mono ?_
                    rintro e s125 ⟨rfl, ⟨vl', hR', ol', kk, ob⟩, hu⟩
                    replace kpl := kk r124 (RowIs.lt QZ) kpl
                    replace kpm := kpm.upd hu hnn hne
                    replace QZ := QZ.upd hu (show r124 ≠ r by omega)
                    replace Q1 := Q1.upd hu (show r105 ≠ r by omega)
                    have hap' : ∀ b, vl'.ownBlock = some b → vm'.ownBlock ≠ some b ∧ b ≠ g := fun b hb => by
                      rcases ob b hb with h | h
                      · exact hap b h
                      · exact ⟨fun e => by have := (om.lt e).2; omega, by omega⟩
                    replace hm := RowIs.upd hm hu (show g ≠ r by omega)
                    replace om := om.upd hu hnn hne
                    replace HB := hu.below HB hwr HB.size
                    replace hbz := Nat.le_trans hbz hu.size
                    replace hR := hR'; replace ol := ol'; replace hap := hap'
                    replace BX := Below.refl s125.heap.size s125
                    clear hR' ol' hap' kk ob hu own8 hv8 hnn hne he
                    go_wp2_with fail
                    refine hKL _ _ (show BelS w _ from HB) (fun _ => ?_)
                    clear KL hKL
                    replace hm := RowIs.step hm BX
                    replace om := om.step BX
                    replace hR := hR.step BX
                    replace ol := ol.step BX
                    replace hbz := Nat.le_trans hbz BX.size
                    replace HB := HB.trans (BX.mono HB.size)
                    replace Q1 := Q1.step BX
                    have hst := mstore s125 r124 (u8s D) (by rw [QZ.has, u8s_size, zeros_length]) (by rw [u8s_size, hDl]) (u8s_one D)
                    have nm := om.ne_row QZ (key_no (zeros_length 32))
                    have nl := ol.ne_row QZ (key_no (zeros_length 32))
                    (go_wp2_with (first | (refine wpLexD_skip rfl ?_) | (refine wpLexD_pure0 (by decide) rfl (fun KP hKP => ?_); go_simp; (try go_bits); refine hKP _ _ ?_) | (refine wpLexD_pure (by decide) rfl (fun KP hKP => ?_); go_simp; refine ⟨_, fun w9 hw9 => (by have s1 := ((show Below w.heap.size w w9 from hw9).cell (p := ⟨gl, og + x, none⟩) hgl).trans e1; have s2 := ((show Below w.heap.size w w9 from hw9).cell (p := ⟨gl, og + y, none⟩) hgl).trans e2; go_simp; rfl), ?_⟩; refine hKP _ _ ?_) | (refine wpLexD_loud (by decide) rfl (fun KL hKL => ?_)) | (refine wpLexS_pure0 rfl (fun KP hKP => ?_); go_simp; (try go_bits); refine hKP _ _ ?_) | (refine wpLexS_pure rfl (fun KP hKP => ?_); go_simp; refine ⟨_, fun w9 hw9 => (by have s1 := ((show Below w.heap.size w w9 from hw9).cell (p := ⟨gl, og + x, none⟩) hgl).trans e1; have s2 := ((show Below w.heap.size w w9 from hw9).cell (p := ⟨gl, og + y, none⟩) hgl).trans e2; go_simp; rfl), ?_⟩; refine hKP _ _ ?_) | (refine wpLexS_loud rfl (fun KL hKL => ?_))))
                    have Q2 := QZ.set (u8s D)
                    replace hm := RowIs.set_ne hm (show g ≠ r124 by omega) (u8s D)
                    replace hR := hR.set_ne (show r ≠ r124 by omega) (u8s D)
                    replace om := kpm.setRow nm (u8s D)
                    replace ol := kpl.setRow nl (u8s D)
                    replace HB : Below w.heap.size w (s125.setRow r124 (u8s D)) := below_setRow HB (by omega) _
                    replace hbz : bs ≤ (s125.setRow r124 (u8s D)).heap.size := by simpa [World.setRow] using hbz
                    replace Q1 := Q1.set_ne (show r105 ≠ r124 by omega) (u8s D)
                    refine hKL _ _ (show BelS w _ from HB) (fun _ => ?_)
                    clear KL hKL hst QZ nm nl kpm kpl BX hxr
                    generalize (s125.setRow r124 (u8s D)) = e126 at hm om hR ol HB hbz Q2 Q1 ⊢
                    have L1 := sload Q1 hDl
                    have L2 := sload Q2 hDl
                    go_wp2_with (refine wpLexS_nil ?_)
                    exact ⟨⟨k + 1, n + 1, _, _, by have := HX.out; go_num, by have := HN.out; omega, by have := HY.out; have := HX.out; omega, hm, om, hR, ol, hap, HB, hbz, fun u hu => by
                      rw [HP.out, List.mem_append, List.mem_singleton] at hu
                      rcases hu with h | h
                      · exact hall u h
                      · rw [h, HL12.out]; exact hb12⟩, by simp [intOf]; omega⟩
                · skip
                  go_wp2_with fail
                  have hro : ∀ k, (Value.slice A8113 n1 c8114).ownBlock = some k → k ≠ x115.heap.size := fun k hk => by have := (own8lt own8 hk).2; omega
                  have QZ : RowIs (x115.alloc (.cells (u8s (zeros 32)) 33)) x115.heap.size (u8s (zeros 32)) := RowIs.new _ _ _
                  have hxs : d110.heap.size ≤ x115.heap.size := BX.size
                  have hq : Below x115.heap.size x115 (x115.alloc (.cells (u8s (zeros 32)) 33)) := (by repeat (first | with_reducible exact Below.refl _ _ | with_reducible assumption | refine Below.drew ?_ | refine below_drewN ?_ | refine Below.alloc ?_ (by first | omega | (simp; done) | (simp; omega)) _ | refine below_setRow ?_ (by omega) _ | refine Below.setCell ?_ (by first | omega | (simp; done) | (simp; omega)) _))
                  replace own8 := own8.step hq
                  replace BX := BX.trans (hq.mono BX.size)
                  clear hq
                  generalize (x115.alloc (.cells (u8s (zeros 32)) 33)) = x127 at BX own8 QZ ⊢
                  obtain ⟨r128, hr_⟩ : ∃ k, k = x115.heap.size := ⟨_, rfl⟩
                  have hxr : d110.heap.size ≤ r128 := by rw [hr_]; exact hxs
                  have hbr : bs ≤ r128 := Nat.le_trans hbz hxr
                  have hq1 := Nat.lt_of_lt_of_le (RowIs.lt Q1) hxr
                  rw [← hr_] at QZ hro ⊢
                  clear hr_ hxs
                  refine hKL _ _ (show BelS w _ from HB.trans (BX.mono HB.size)) (fun _ => ?_)
                  clear KL hKL
                  (go_wp2_with (first | (refine wpLexD_skip rfl ?_) | (refine wpLexD_pure0 (by decide) rfl (fun KP hKP => ?_); go_simp; (try go_bits); refine hKP _ _ ?_) | (refine wpLexD_pure (by decide) rfl (fun KP hKP => ?_); go_simp; refine ⟨_, fun w9 hw9 => (by have s1 := ((show Below w.heap.size w w9 from hw9).cell (p := ⟨gl, og + x, none⟩) hgl).trans e1; have s2 := ((show Below w.heap.size w w9 from hw9).cell (p := ⟨gl, og + y, none⟩) hgl).trans e2; go_simp; rfl), ?_⟩; refine hKP _ _ ?_)))
                  refine wpLexD_loud (by decide) rfl (fun KL hKL => ?_)
                  have hbW := hb2.step (HB.trans (BX.mono HB.size))
                  refine wpList_appendBsX Tryd.underlying27 Tryd.info8 rfl (.tmp 76) (.tmp 81) rfl d110.heap.size rfl own8 rfl hbW (rfl) HL12.out (by omega) BX.size ?_
                  intro A8129 c8130 x131 own9 gr9 ob9
                  have hqlt := RowIs.lt QZ
                  replace QZ := QZ.grown gr9 (fun e => hro _ e rfl)
                  replace hro : ∀ k, (Value.slice A8129 n12 c8130).ownBlock = some k → k ≠ r128 := fun k hk => by
                    rcases ob9 k hk with h | h
                    · exact hro k h
                    · omega
                  clear hqlt
                  have bel9 := below_append (Below.refl d110.heap.size x127) own8 gr9 (Nat.le_refl _) BX.size
                  replace BX := BX.trans bel9
                  replace own8 := own9
                  clear own9 gr9 ob9 bel9 hbW
                  go_wp2_with fail
                  refine hKL _ _ (show BelS w _ from HB.trans (BX.mono HB.size)) (fun _ => ?_)
                  clear KL hKL
                  (go_wp2_with (first | (refine wpLexD_skip rfl ?_) | (refine wpLexD_pure0 (by decide) rfl (fun KP hKP => ?_); go_simp; (try go_bits); refine hKP _ _ ?_) | (refine wpLexD_pure (by decide) rfl (fun KP hKP => ?_); go_simp; refine ⟨_, fun w9 hw9 => (by have s1 := ((show Below w.heap.size w w9 from hw9).cell (p := ⟨gl, og + x, none⟩) hgl).trans e1; have s2 := ((show Below w.heap.size w w9 from hw9).cell (p := ⟨gl, og + y, none⟩) hgl).trans e2; go_simp; rfl), ?_⟩; refine hKP _ _ ?_)))
                  refine wpLexD_loud (by decide) rfl (fun KL hKL => ?_)
                  go_wp2_with fail
                  have kpm := (Kept.of om hxr).step BX
                  have kpl := (Kept.of ol hxr).step BX
                  replace hm := RowIs.step hm BX
                  replace om := om.step BX
                  replace hR := hR.step BX
                  replace ol := ol.step BX
                  replace Q1 := Q1.step BX
                  replace hbz := Nat.le_trans hbz BX.size
                  replace HB := HB.trans (BX.mono HB.size)
                  have he := he0.step HB
                  have hv8 := own8.bsN HL12.out (by omega)
                  have hnn := log_no8 hR ol
                  have hne : vm'.ownBlock ≠ some r := fun e => by have := (om.lt e).1; omega
                  refine (ML.out _ _ _ hR ol hbz hv8).mono ?_
                  rintro e s132 ⟨rfl, ⟨vl', hR', ol', kk, ob⟩, hu⟩
                  replace kpl := kk r128 (RowIs.lt QZ) kpl
                  replace kpm := kpm.upd hu hnn hne
                  replace QZ := QZ.upd hu (show r128 ≠ r by omega)
                  replace Q1 := Q1.upd hu (show r105 ≠ r by omega)
                  have hap' : ∀ b, vl'.ownBlock = some b → vm'.ownBlock ≠ some b ∧ b ≠ g := fun b hb => by
                    rcases ob b hb with h | h
                    · exact hap b h
                    · exact ⟨fun e => by have := (om.lt e).2; omega, by omega⟩
                  replace hm := RowIs.upd hm hu (show g ≠ r by omega)
                  replace om := om.upd hu hnn hne
                  replace HB := hu.below HB hwr HB.size
                  replace hbz := Nat.le_trans hbz hu.size
                  replace hR := hR'; replace ol := ol'; replace hap := hap'
                  replace BX := Below.refl s132.heap.size s132
                  clear hR' ol' hap' kk ob hu own8 hv8 hnn hne he
                  go_wp2_with fail
                  refine hKL _ _ (show BelS w _ from HB) (fun _ => ?_)
                  clear KL hKL
                  replace hm := RowIs.step hm BX
                  replace om := om.step BX
                  replace hR := hR.step BX
                  replace ol := ol.step BX
                  replace hbz := Nat.le_trans hbz BX.size
                  replace HB := HB.trans (BX.mono HB.size)
                  replace Q1 := Q1.step BX
                  have hst := mstore s132 r128 (u8s D) (by rw [QZ.has, u8s_size, zeros_length]) (by rw [u8s_size, hDl]) (u8s_one D)
                  have nm := om.ne_row QZ (key_no (zeros_length 32))
                  have nl := ol.ne_row QZ (key_no (zeros_length 32))
                  (go_wp2_with (first | (refine wpLexD_skip rfl ?_) | (refine wpLexD_pure0 (by decide) rfl (fun KP hKP => ?_); go_simp; (try go_bits); refine hKP _ _ ?_) | (refine wpLexD_pure (by decide) rfl (fun KP hKP => ?_); go_simp; refine ⟨_, fun w9 hw9 => (by have s1 := ((show Below w.heap.size w w9 from hw9).cell (p := ⟨gl, og + x, none⟩) hgl).trans e1; have s2 := ((show Below w.heap.size w w9 from hw9).cell (p := ⟨gl, og + y, none⟩) hgl).trans e2; go_simp; rfl), ?_⟩; refine hKP _ _ ?_) | (refine wpLexD_loud (by decide) rfl (fun KL hKL => ?_)) | (refine wpLexS_pure0 rfl (fun KP hKP => ?_); go_simp; (try go_bits); refine hKP _ _ ?_) | (refine wpLexS_pure rfl (fun KP hKP => ?_); go_simp; refine ⟨_, fun w9 hw9 => (by have s1 := ((show Below w.heap.size w w9 from hw9).cell (p := ⟨gl, og + x, none⟩) hgl).trans e1; have s2 := ((show Below w.heap.size w w9 from hw9).cell (p := ⟨gl, og + y, none⟩) hgl).trans e2; go_simp; rfl), ?_⟩; refine hKP _ _ ?_) | (refine wpLexS_loud rfl (fun KL hKL => ?_))))
                  have Q2 := QZ.set (u8s D)
                  replace hm := RowIs.set_ne hm (show g ≠ r128 by omega) (u8s D)
                  replace hR := hR.set_ne (show r ≠ r128 by omega) (u8s D)
                  replace om := kpm.setRow nm (u8s D)
                  replace ol := kpl.setRow nl (u8s D)
                  replace HB : Below w.heap.size w (s132.setRow r128 (u8s D)) := below_setRow HB (by omega) _
                  replace hbz : bs ≤ (s132.setRow r128 (u8s D)).heap.size := by simpa [World.setRow] using hbz
                  replace Q1 := Q1.set_ne (show r105 ≠ r128 by omega) (u8s D)
                  refine hKL _ _ (show BelS w _ from HB) (fun _ => ?_)
                  clear KL hKL hst QZ nm nl kpm kpl BX hxr
                  generalize (s132.setRow r128 (u8s D)) = e133 at hm om hR ol HB hbz Q2 Q1 ⊢
                  have L1 := sload Q1 hDl
                  have L2 := sload Q2 hDl
                  go_wp2_with (refine wpLexS_nil ?_)
                  exact ⟨⟨k + 1, n + 1, _, _, by have := HX.out; go_num, by have := HN.out; omega, by have := HY.out; have := HX.out; omega, hm, om, hR, ol, hap, HB, hbz, fun u hu => by
                    rw [HP.out, List.mem_append, List.mem_singleton] at hu
                    rcases hu with h | h
                    · exact hall u h
                    · rw [h, HL12.out]; exact hb12⟩, by simp [intOf]; omega⟩
              · skip
                go_wp2_with fail
                have hro : ∀ k, (Value.slice (some ⟨b111, 0, none⟩) 0 0).ownBlock = some k → k ≠ x112.heap.size := fun k hk => by have := (own8lt own8 hk).2; omega
                have QZ : RowIs (x112.alloc (.cells (u8s (zeros 32)) 33)) x112.heap.size (u8s (zeros 32)) := RowIs.new _ _ _
                have hxs : d110.heap.size ≤ x112.heap.size := BX.size
                have hq : Below x112.heap.size x112 (x112.alloc (.cells (u8s (zeros 32)) 33)) := (by repeat (first | with_reducible exact Below.refl _ _ | with_reducible assumption | refine Below.drew ?_ | refine below_drewN ?_ | refine Below.alloc ?_ (by first | omega | (simp; done) | (simp; omega)) _ | refine below_setRow ?_ (by omega) _ | refine Below.setCell ?_ (by first | omega | (simp; done) | (simp; omega)) _))
                replace own8 := own8.step hq
                replace BX := BX.trans (hq.mono BX.size)
                clear hq
                generalize (x112.alloc (.cells (u8s (zeros 32)) 33)) = x134 at BX own8 QZ ⊢
                obtain ⟨r135, hr_⟩ : ∃ k, k = x112.heap.size := ⟨_, rfl⟩
                have hxr : d110.heap.size ≤ r135 := by rw [hr_]; exact hxs
                have hbr : bs ≤ r135 := Nat.le_trans hbz hxr
                have hq1 := Nat.lt_of_lt_of_le (RowIs.lt Q1) hxr
                rw [← hr_] at QZ hro ⊢
                clear hr_ hxs
                refine hKL _ _ (show BelS w _ from HB.trans (BX.mono HB.size)) (fun _ => ?_)
                clear KL hKL
                (go_wp2_with (first | (refine wpLexD_skip rfl ?_) | (refine wpLexD_pure0 (by decide) rfl (fun KP hKP => ?_); go_simp; (try go_bits); refine hKP _ _ ?_) | (refine wpLexD_pure (by decide) rfl (fun KP hKP => ?_); go_simp; refine ⟨_, fun w9 hw9 => (by have s1 := ((show Below w.heap.size w w9 from hw9).cell (p := ⟨gl, og + x, none⟩) hgl).trans e1; have s2 := ((show Below w.heap.size w w9 from hw9).cell (p := ⟨gl, og + y, none⟩) hgl).trans e2; go_simp; rfl), ?_⟩; refine hKP _ _ ?_)))
                refine wpLexD_loud (by decide) rfl (fun KL hKL => ?_)
                have hbW := hb1.step (HB.trans (BX.mono HB.size))
                refine wpList_appendBsX Tryd.underlying27 Tryd.info8 rfl (.tmp 71) (.tmp 75) rfl d110.heap.size rfl own8 rfl hbW (List.nil_append _) HL1.out (by omega) BX.size ?_
                intro A8136 c8137 x138 own9 gr9 ob9
                have hqlt := RowIs.lt QZ
                replace QZ := QZ.grown gr9 (fun e => hro _ e rfl)
                replace hro : ∀ k, (Value.slice A8136 n1 c8137).ownBlock = some k → k ≠ r135 := fun k hk => by
                  rcases ob9 k hk with h | h
                  · exact hro k h
                  · omega
                clear hqlt
                have bel9 := below_append (Below.refl d110.heap.size x134) own8 gr9 (Nat.le_refl _) BX.size
                replace BX := BX.trans bel9
                replace own8 := own9
                clear own9 gr9 ob9 bel9 hbW
                go_wp2_with fail
                refine hKL _ _ (show BelS w _ from HB.trans (BX.mono HB.size)) (fun _ => ?_)
                clear KL hKL
                (go_wp2_with (first | (refine wpLexD_skip rfl ?_) | (refine wpLexD_pure0 (by decide) rfl (fun KP hKP => ?_); go_simp; (try go_bits); refine hKP _ _ ?_) | (refine wpLexD_pure (by decide) rfl (fun KP hKP => ?_); go_simp; refine ⟨_, fun w9 hw9 => (by have s1 := ((show Below w.heap.size w w9 from hw9).cell (p := ⟨gl, og + x, none⟩) hgl).trans e1; have s2 := ((show Below w.heap.size w w9 from hw9).cell (p := ⟨gl, og + y, none⟩) hgl).trans e2; go_simp; rfl), ?_⟩; refine hKP _ _ ?_)))
                refine wpLexD_loud (by decide) rfl (fun KL hKL => ?_)
                have hbW := hb2.step (HB.trans (BX.mono HB.size))
                refine wpList_appendBsX Tryd.underlying27 Tryd.info8 rfl (.tmp 76) (.tmp 81) rfl d110.heap.size rfl own8 rfl hbW (rfl) HL12.out (by omega) BX.size ?_
                intro A8139 c8140 x141 own9 gr9 ob9
                have hqlt := RowIs.lt QZ
                replace QZ := QZ.grown gr9 (fun e => hro _ e rfl)
                replace hro : ∀ k, (Value.slice A8139 n12 c8140).ownBlock = some k → k ≠ r135 := fun k hk => by
                  rcases ob9 k hk with h | h
                  · exact hro k h
                  · omega
                clear hqlt
                have bel9 := below_append (Below.refl d110.heap.size x138) own8 gr9 (Nat.le_refl _) BX.size
                replace BX := BX.trans bel9
                replace own8 := own9
                clear own9 gr9 ob9 bel9 hbW
                go_wp2_with fail
                refine hKL _ _ (show BelS w _ from HB.trans (BX.mono HB.size)) (fun _ => ?_)
                clear KL hKL
                (go_wp2_with (first | (refine wpLexD_skip rfl ?_) | (refine wpLexD_pure0 (by decide) rfl (fun KP hKP => ?_); go_simp; (try go_bits); refine hKP _ _ ?_) | (refine wpLexD_pure (by decide) rfl (fun KP hKP => ?_); go_simp; refine ⟨_, fun w9 hw9 => (by have s1 := ((show Below w.heap.size w w9 from hw9).cell (p := ⟨gl, og + x, none⟩) hgl).trans e1; have s2 := ((show Below w.heap.size w w9 from hw9).cell (p := ⟨gl, og + y, none⟩) hgl).trans e2; go_simp; rfl), ?_⟩; refine hKP _ _ ?_)))
                refine wpLexD_loud (by decide) rfl (fun KL hKL => ?_)
                go_wp2_with fail
                have kpm := (Kept.of om hxr).step BX
                have kpl := (Kept.of ol hxr).step BX
                replace hm := RowIs.step hm BX
                replace om := om.step BX
                replace hR := hR.step BX
                replace ol := ol.step BX
                replace Q1 := Q1.step BX
                replace hbz := Nat.le_trans hbz BX.size
                replace HB := HB.trans (BX.mono HB.size)
                have he := he0.step HB
                have hv8 := own8.bsN HL12.out (by omega)
                have hnn := log_no8 hR ol
                have hne : vm'.ownBlock ≠ some r := fun e => by have := (om.lt e).1; omega
                refine (ML.out _ _ _ hR ol hbz hv8).mono ?_
                rintro e s142 ⟨rfl, ⟨vl', hR', ol', kk, ob⟩, hu⟩
                replace kpl := kk r135 (RowIs.lt QZ) kpl
                replace kpm := kpm.upd hu hnn hne
                replace QZ := QZ.upd hu (show r135 ≠ r by omega)
                replace Q1 := Q1.upd hu (show r105 ≠ r by omega)
                have hap' : ∀ b, vl'.ownBlock = some b → vm'.ownBlock ≠ some b ∧ b ≠ g := fun b hb => by
                  rcases ob b hb with h | h
                  · exact hap b h
                  · exact ⟨fun e => by have := (om.lt e).2; omega, by omega⟩
                replace hm := RowIs.upd hm hu (show g ≠ r by omega)
                replace om := om.upd hu hnn hne
                replace HB := hu.below HB hwr HB.size
                replace hbz := Nat.le_trans hbz hu.size
                replace hR := hR'; replace ol := ol'; replace hap := hap'
                replace BX := Below.refl s142.heap.size s142
                clear hR' ol' hap' kk ob hu own8 hv8 hnn hne he
                go_wp2_with fail
                refine hKL _ _ (show BelS w _ from HB) (fun _ => ?_)
                clear KL hKL
                replace hm := RowIs.step hm BX
                replace om := om.step BX
                replace hR := hR.step BX
                replace ol := ol.step BX
                replace hbz := Nat.le_trans hbz BX.size
                replace HB := HB.trans (BX.mono HB.size)
                replace Q1 := Q1.step BX
                have hst := mstore s142 r135 (u8s D) (by rw [QZ.has, u8s_size, zeros_length]) (by rw [u8s_size, hDl]) (u8s_one D)
                have nm := om.ne_row QZ (key_no (zeros_length 32))
                have nl := ol.ne_row QZ (key_no (zeros_length 32))
                (go_wp2_with (first | (refine wpLexD_skip rfl ?_) | (refine wpLexD_pure0 (by decide) rfl (fun KP hKP => ?_); go_simp; (try go_bits); refine hKP _ _ ?_) | (refine wpLexD_pure (by decide) rfl (fun KP hKP => ?_); go_simp; refine ⟨_, fun w9 hw9 => (by have s1 := ((show Below w.heap.size w w9 from hw9).cell (p := ⟨gl, og + x, none⟩) hgl).trans e1; have s2 := ((show Below w.heap.size w w9 from hw9).cell (p := ⟨gl, og + y, none⟩) hgl).trans e2; go_simp; rfl), ?_⟩; refine hKP _ _ ?_) | (refine wpLexD_loud (by decide) rfl (fun KL hKL => ?_)) | (refine wpLexS_pure0 rfl (fun KP hKP => ?_); go_simp; (try go_bits); refine hKP _ _ ?_) | (refine wpLexS_pure rfl (fun KP hKP => ?_); go_simp; refine ⟨_, fun w9 hw9 => (by have s1 := ((show Below w.heap.size w w9 from hw9).cell (p := ⟨gl, og + x, none⟩) hgl).trans e1; have s2 := ((show Below w.heap.size w w9 from hw9).cell (p := ⟨gl, og + y, none⟩) hgl).trans e2; go_simp; rfl), ?_⟩; refine hKP _ _ ?_) | (refine wpLexS_loud rfl (fun KL hKL => ?_))))
                have Q2 := QZ.set (u8s D)
                replace hm := RowIs.set_ne hm (show g ≠ r135 by omega) (u8s D)
                replace hR := hR.set_ne (show r ≠ r135 by omega) (u8s D)
                replace om := kpm.setRow nm (u8s D)
                replace ol := kpl.setRow nl (u8s D)
                replace HB : Below w.heap.size w (s142.setRow r135 (u8s D)) := below_setRow HB (by omega) _
                replace hbz : bs ≤ (s142.setRow r135 (u8s D)).heap.size := by simpa [World.setRow] using hbz
                replace Q1 := Q1.set_ne (show r105 ≠ r135 by omega) (u8s D)
                refine hKL _ _ (show BelS w _ from HB) (fun _ => ?_)
                clear KL hKL hst QZ nm nl kpm kpl BX hxr
                generalize (s142.setRow r135 (u8s D)) = e143 at hm om hR ol HB hbz Q2 Q1 ⊢
                have L1 := sload Q1 hDl
                have L2 := sload Q2 hDl
                go_wp2_with (refine wpLexS_nil ?_)
                exact ⟨⟨k + 1, n + 1, _, _, by have := HX.out; go_num, by have := HN.out; omega, by have := HY.out; have := HX.out; omega, hm, om, hR, ol, hap, HB, hbz, fun u hu => by
                  rw [HP.out, List.mem_append, List.mem_singleton] at hu
                  rcases hu with h | h
                  · exact hall u h
                  · rw [h, HL12.out]; exact hb12⟩, by simp [intOf]; omega⟩
            · skip
              go_wp2_with fail
              have QZ : RowIs (d110.alloc (.cells (u8s (zeros 32)) 33)) d110.heap.size (u8s (zeros 32)) := RowIs.new _ _ _
              have hxs : d110.heap.size ≤ d110.heap.size := BX.size
              have hq : Below d110.heap.size d110 (d110.alloc (.cells (u8s (zeros 32)) 33)) := (by repeat (first | with_reducible exact Below.refl _ _ | with_reducible assumption | refine Below.drew ?_ | refine below_drewN ?_ | refine Below.alloc ?_ (by first | omega | (simp; done) | (simp; omega)) _ | refine below_setRow ?_ (by omega) _ | refine Below.setCell ?_ (by first | omega | (simp; done) | (simp; omega)) _))
              replace BX := BX.trans (hq.mono BX.size)
              clear hq
              generalize (d110.alloc (.cells (u8s (zeros 32)) 33)) = x144 at BX QZ ⊢
              obtain ⟨r145, hr_⟩ : ∃ k, k = d110.heap.size := ⟨_, rfl⟩
              have hxr : d110.heap.size ≤ r145 := by rw [hr_]; exact hxs
              have hbr : bs ≤ r145 := Nat.le_trans hbz hxr
              have hq1 := Nat.lt_of_lt_of_le (RowIs.lt Q1) hxr
              rw [← hr_] at QZ  ⊢
              clear hr_ hxs
              refine hKL _ _ (show BelS w _ from HB.trans (BX.mono HB.size)) (fun _ => ?_)
              clear KL hKL
              (go_wp2_with (first | (refine wpLexD_skip rfl ?_) | (refine wpLexD_pure0 (by decide) rfl (fun KP hKP => ?_); go_simp; (try go_bits); refine hKP _ _ ?_) | (refine wpLexD_pure (by decide) rfl (fun KP hKP => ?_); go_simp; refine ⟨_, fun w9 hw9 => (by have s1 := ((show Below w.heap.size w w9 from hw9).cell (p := ⟨gl, og + x, none⟩) hgl).trans e1; have s2 := ((show Below w.heap.size w w9 from hw9).cell (p := ⟨gl, og + y, none⟩) hgl).trans e2; go_simp; rfl), ?_⟩; refine hKP _ _ ?_)))
              refine wpLexD_loud (by decide) rfl (fun KL hKL => ?_)
              go_wp2_with fail
              obtain ⟨b146, hb8⟩ : ∃ k, k = x144.heap.size := ⟨_, rfl⟩
              have own8 := Own8.empty (T := 5) (g := b146) x144 (base := d110.heap.size) hb8 BX.size
              have hro : ∀ k, (Value.slice (some ⟨b146, 0, none⟩) 0 0).ownBlock = some k → k ≠ r145 := fun k hk => by have h1 : b146 = k := Option.some.inj hk; have h2 := RowIs.lt QZ; omega
              have hq : Below x144.heap.size x144 (x144.alloc (.cells #[] 5)) := (by repeat (first | with_reducible exact Below.refl _ _ | with_reducible assumption | refine Below.drew ?_ | refine below_drewN ?_ | refine Below.alloc ?_ (by first | omega | (simp; done) | (simp; omega)) _ | refine below_setRow ?_ (by omega) _ | refine Below.setCell ?_ (by first | omega | (simp; done) | (simp; omega)) _))
              replace QZ := QZ.step hq
              replace BX := BX.trans (hq.mono BX.size)
              clear hq
              generalize (x144.alloc (.cells #[] 5)) = x147 at BX QZ own8 ⊢
              rw [← hb8]
              clear hb8
              refine hKL _ _ (show BelS w _ from HB.trans (BX.mono HB.size)) (fun _ => ?_)
              clear KL hKL
              (go_wp2_with (first | (refine wpLexD_skip rfl ?_) | (refine wpLexD_pure0 (by decide) rfl (fun KP hKP => ?_); go_simp; (try go_bits); refine hKP _ _ ?_) | (refine wpLexD_pure (by decide) rfl (fun KP hKP => ?_); go_simp; refine ⟨_, fun w9 hw9 => (by have s1 := ((show Below w.heap.size w w9 from hw9).cell (p := ⟨gl, og + x, none⟩) hgl).trans e1; have s2 := ((show Below w.heap.size w w9 from hw9).cell (p := ⟨gl, og + y, none⟩) hgl).trans e2; go_simp; rfl), ?_⟩; refine hKP _ _ ?_)))
              refine wpLexD_loud (by decide) rfl (fun KL hKL => ?_)
              have hbW := hb1.step (HB.trans (BX.mono HB.size))
              refine wpList_appendBsX Tryd.underlying27 Tryd.info8 rfl (.tmp 71) (.tmp 75) rfl d110.heap.size rfl own8 rfl hbW (List.nil_append _) HL1.out (by omega) BX.size ?_
              intro A8148 c8149 x150 own9 gr9 ob9
              have hqlt := RowIs.lt QZ
              replace QZ := QZ.grown gr9 (fun e => hro _ e rfl)
              replace hro : ∀ k, (Value.slice A8148 n1 c8149).ownBlock = some k → k ≠ r145 := fun k hk => by
                rcases ob9 k hk with h | h
                · exact hro k h
                · omega
              clear hqlt
              have bel9 := below_append (Below.refl d110.heap.size x147) own8 gr9 (Nat.le_refl _) BX.size
              replace BX := BX.trans bel9
              replace own8 := own9
              clear own9 gr9 ob9 bel9 hbW
              go_wp2_with fail
              refine hKL _ _ (show BelS w _ from HB.trans (BX.mono HB.size)) (fun _ => ?_)
              clear KL hKL
              (go_wp2_with (first | (refine wpLexD_skip rfl ?_) | (refine wpLexD_pure0 (by decide) rfl (fun KP hKP => ?_); go_simp; (try go_bits); refine hKP _ _ ?_) | (refine wpLexD_pure (by decide) rfl (fun KP hKP => ?_); go_simp; refine ⟨_, fun w9 hw9 => (by have s1 := ((show Below w.heap.size w w9 from hw9).cell (p := ⟨gl, og + x, none⟩) hgl).trans e1; have s2 := ((show Below w.heap.size w w9 from hw9).cell (p := ⟨gl, og + y, none⟩) hgl).trans e2; go_simp; rfl), ?_⟩; refine hKP _ _ ?_)))
              refine wpLexD_loud (by decide) rfl (fun KL hKL => ?_)
              have hbW := hb2.step (HB.trans (BX.mono HB.size))
              refine wpList_appendBsX Tryd.underlying27 Tryd.info8 rfl (.tmp 76) (.tmp 81) rfl d110.heap.size rfl own8 rfl hbW (rfl) HL12.out (by omega) BX.size ?_
              intro A8151 c8152 x153 own9 gr9 ob9
              have hqlt := RowIs.lt QZ
              replace QZ := QZ.grown gr9 (fun e => hro _ e rfl)
              replace hro : ∀ k, (Value.slice A8151 n12 c8152).ownBlock = some k → k ≠ r145 := fun k hk => by
                rcases ob9 k hk with h | h
                · exact hro k h
                · omega
              clear hqlt
              have bel9 := below_append (Below.refl d110.heap.size x150) own8 gr9 (Nat.le_refl _) BX.size
              replace BX := BX.trans bel9
              replace own8 := own9
              clear own9 gr9 ob9 bel9 hbW
              go_wp2_with fail
              refine hKL _ _ (show BelS w _ from HB.trans (BX.mono HB.size)) (fun _ => ?_)
              clear KL hKL
              (go_wp2_with (first | (refine wpLexD_skip rfl ?_) | (refine wpLexD_pure0 (by decide) rfl (fun KP hKP => ?_); go_simp; (try go_bits); refine hKP _ _ ?_) | (refine wpLexD_pure (by decide) rfl (fun KP hKP => ?_); go_simp; refine ⟨_, fun w9 hw9 => (by have s1 := ((show Below w.heap.size w w9 from hw9).cell (p := ⟨gl, og + x, none⟩) hgl).trans e1; have s2 := ((show Below w.heap.size w w9 from hw9).cell (p := ⟨gl, og + y, none⟩) hgl).trans e2; go_simp; rfl), ?_⟩; refine hKP _ _ ?_)))
              refine wpLexD_loud (by decide) rfl (fun KL hKL => ?_)
              go_wp2_with fail
              have kpm := (Kept.of om hxr).step BX
              have kpl := (Kept.of ol hxr).step BX
              replace hm := RowIs.step hm BX
              replace om := om.step BX
              replace hR := hR.step BX
              replace ol := ol.step BX
              replace Q1 := Q1.step BX
              replace hbz := Nat.le_trans hbz BX.size
              replace HB := HB.trans (BX.mono HB.size)
              have he := he0.step HB
              have hv8 := own8.bsN HL12.out (by omega)
              have hnn := log_no8 hR ol
              have hne : vm'.ownBlock ≠ some r := fun e => by have := (om.lt e).1; omega
              refine (ML.out _ _ _ hR ol hbz hv8).mono ?_
              rintro e s154 ⟨rfl, ⟨vl', hR', ol', kk, ob⟩, hu⟩
              replace kpl := kk r145 (RowIs.lt QZ) kpl
              replace kpm := kpm.upd hu hnn hne
              replace QZ := QZ.upd hu (show r145 ≠ r by omega)
              replace Q1 := Q1.upd hu (show r105 ≠ r by omega)
              have hap' : ∀ b, vl'.ownBlock = some b → vm'.ownBlock ≠ some b ∧ b ≠ g := fun b hb => by
                rcases ob b hb with h | h
                · exact hap b h
                · exact ⟨fun e => by have := (om.lt e).2; omega, by omega⟩
              replace hm := RowIs.upd hm hu (show g ≠ r by omega)
              replace om := om.upd hu hnn hne
              replace HB := hu.below HB hwr HB.size
              replace hbz := Nat.le_trans hbz hu.size
              replace hR := hR'; replace ol := ol'; replace hap := hap'
              replace BX := Below.refl s154.heap.size s154
              clear hR' ol' hap' kk ob hu own8 hv8 hnn hne he
              go_wp2_with fail
              refine hKL _ _ (show BelS w _ from HB) (fun _ => ?_)
              clear KL hKL
              replace hm := RowIs.step hm BX
              replace om := om.step BX
              replace hR := hR.step BX
              replace ol := ol.step BX
              replace hbz := Nat.le_trans hbz BX.size
              replace HB := HB.trans (BX.mono HB.size)
              replace Q1 := Q1.step BX
              have hst := mstore s154 r145 (u8s D) (by rw [QZ.has, u8s_size, zeros_length]) (by rw [u8s_size, hDl]) (u8s_one D)
              have nm := om.ne_row QZ (key_no (zeros_length 32))
              have nl := ol.ne_row QZ (key_no (zeros_length 32))
              (go_wp2_with (first | (refine wpLexD_skip rfl ?_) | (refine wpLexD_pure0 (by decide) rfl (fun KP hKP => ?_); go_simp; (try go_bits); refine hKP _ _ ?_) | (refine wpLexD_pure (by decide) rfl (fun KP hKP => ?_); go_simp; refine ⟨_, fun w9 hw9 => (by have s1 := ((show Below w.heap.size w w9 from hw9).cell (p := ⟨gl, og + x, none⟩) hgl).trans e1; have s2 := ((show Below w.heap.size w w9 from hw9).cell (p := ⟨gl, og + y, none⟩) hgl).trans e2; go_simp; rfl), ?_⟩; refine hKP _ _ ?_) | (refine wpLexD_loud (by decide) rfl (fun KL hKL => ?_)) | (refine wpLexS_pure0 rfl (fun KP hKP => ?_); go_simp; (try go_bits); refine hKP _ _ ?_) | (refine wpLexS_pure rfl (fun KP hKP => ?_); go_simp; refine ⟨_, fun w9 hw9 => (by have s1 := ((show Below w.heap.size w w9 from hw9).cell (p := ⟨gl, og + x, none⟩) hgl).trans e1; have s2 := ((show Below w.heap.size w w9 from hw9).cell (p := ⟨gl, og + y, none⟩) hgl).trans e2; go_simp; rfl), ?_⟩; refine hKP _ _ ?_) | (refine wpLexS_loud rfl (fun KL hKL => ?_))))
              have Q2 := QZ.set (u8s D)
              replace hm := RowIs.set_ne hm (show g ≠ r145 by omega) (u8s D)
              replace hR := hR.set_ne (show r ≠ r145 by omega) (u8s D)
              replace om := kpm.setRow nm (u8s D)
              replace ol := kpl.setRow nl (u8s D)
              replace HB : Below w.heap.size w (s154.setRow r145 (u8s D)) := below_setRow HB (by omega) _
              replace hbz : bs ≤ (s154.setRow r145 (u8s D)).heap.size := by simpa [World.setRow] using hbz
              replace Q1 := Q1.set_ne (show r105 ≠ r145 by omega) (u8s D)
              refine hKL _ _ (show BelS w _ from HB) (fun _ => ?_)
              clear KL hKL hst QZ nm nl kpm kpl BX hxr
              generalize (s154.setRow r145 (u8s D)) = e155 at hm om hR ol HB hbz Q2 Q1 ⊢
              have L1 := sload Q1 hDl
              have L2 := sload Q2 hDl
              go_wp2_with (refine wpLexS_nil ?_)
              exact ⟨⟨k + 1, n + 1, _, _, by have := HX.out; go_num, by have := HN.out; omega, by have := HY.out; have := HX.out; omega, hm, om, hR, ol, hap, HB, hbz, fun u hu => by
                rw [HP.out, List.mem_append, List.mem_singleton] at hu
                rcases hu with h | h
                · exact hall u h
                · rw [h, HL12.out]; exact hb12⟩, by simp [intOf]; omega⟩
    · have j1 : ¬ (y : Int) < m := by omega
      have hkq := kq_len kp (pairs ls k)
      have k6 : k ≤ 6 := by have := HX.out; omega
      have hall2 := kq_all (kp := kp) hall
      obtain ⟨KS, hKS⟩ : ∃ KS, KS = kq kp (pairs ls k) := ⟨_, rfl⟩
      rw [← hKS] at om ol hkq hall2
      have hks : KS.length ≤ 6 := by omega
      have hle : ∀ i, i < KS.length → (nthL KS i).length ≤ 17592186044416 := fun i hi => Nat.le_trans (hall2 i hi) (by omega)
      have N1 : (n == n) = true := by simp
      have HLE := Lib.hid hle
      clear hKS hkq hall hall2 hpl hle hn hx hy
      go_wp2_with fail
      refine (count_any g n kp vm _ hm).mono ?_
      rintro e w4 ⟨rfl, rfl⟩
      go_wp2_with fail
      refine (inputsQ_any g bs n kp vm KS _ hm om (by omega)).mono ?_
      rintro e w5 ⟨u, rfl, hm5, om5, ou5, hu5⟩
      have n8 := met_no8 hm om
      have hR5 := hR.upd hu5 (show r ≠ g by omega)
      have ol5 := ol.upd hu5 n8 (fun e => (hap g e).2 rfl)
      have HB5 := hu5.below HB hwg HB.size
      have he5 := he0.step HB5
      have hgu : u.ownBlock ≠ some g := fun e => by have := (ou5.lt e).1; omega
      clear hm om hR ol HB n8 hu5
      go_wp2_with fail
      refine (alikeG_any g bs n kp vm KS _ hm5 om5 he5 (by omega) HLE.out).mono ?_
      rintro e w6 ⟨⟨a1, b1, t1, rfl, ha1⟩, hm6, om6, hu6⟩
      have n86 := met_no8 hm5 om5
      have hR6 := hR5.upd hu6 (show r ≠ g by omega)
      have ol6 := ol5.upd hu6 n86 (fun e => (hap g e).2 rfl)
      have ou6 := ou5.upd hu6 n86 hgu
      have HB6 := hu6.below HB5 hwg HB5.size
      clear hm5 om5 hR5 ol5 ou5 HB5 he5 n86 hu6 hm6 om6
      go_wp2_with fail
      refine (lalike_any r n kp vl KS _ hR6 (ol6.bsl (by omega)) (by omega) HLE.out).mono ?_
      rintro e w7 ⟨⟨a2, b2, t2, rfl, ha2⟩, b67⟩
      have ha1' := ha1.map (fun _ _ h => h.step b67)
      obtain ⟨ht, ll, mm, x1, x2, x3, x4⟩ := ha1'.same ha2
      subst ht
      replace hR6 := hR6.step b67
      replace ol6 := ol6.step b67
      replace ou6 := ou6.step b67
      replace HB6 := HB6.trans (b67.mono HB6.size)
      have T1 : (t1 == t1) = true := by simp
      clear ha1 ha1' ha2 b67
      go_wp2_with fail
      refine (countNil_any _).mono ?_
      rintro e w8 ⟨rfl, rfl⟩
      go_wp2_with fail
      refine (inputsNil_any _).mono ?_
      rintro e w9 ⟨rfl, rfl⟩
      go_wp2_with fail
      refine (alikeNil_any _).mono ?_
      rintro e wA ⟨rfl, bA⟩
      replace hR6 := hR6.step bA
      replace ol6 := ol6.step bA
      replace ou6 := ou6.step bA
      replace HB6 := HB6.trans (bA.mono HB6.size)
      replace x1 := x1.step bA
      replace x2 := x2.step bA
      replace x3 := x3.step bA
      replace x4 := x4.step bA
      obtain ⟨c0, c1', c2'⟩ := logRow hR6
      have HLS := lists_bs u vl KS KS wA (ou6.bsl (by omega)) (ol6.bsl (by omega))
      rw [decide_eq_true rfl] at HLS
      have HLH := Lib.hid HLS
      clear HLS bA
      go_wp2_with fail
      refine HLH.out.mono ?_
      rintro e wB ⟨rfl, bB⟩
      replace HB6 := HB6.trans (bB.mono HB6.size)
      replace x1 := x1.step bB
      replace x2 := x2.step bB
      replace x3 := x3.step bB
      replace x4 := x4.step bB
      have S1 := refSame_bs x1 x2
      rw [decide_eq_true rfl] at S1
      have SH1 := Lib.hid S1
      clear S1 bB c0 c1' c2' hR6 ol6 ou6 HLH
      go_wp2_with fail
      refine SH1.out.mono ?_
      rintro e wC ⟨rfl, bC⟩
      replace HB6 := HB6.trans (bC.mono HB6.size)
      replace x3 := x3.step bC
      replace x4 := x4.step bC
      have S2 := refSame_bs x3 x4
      rw [decide_eq_true rfl] at S2
      have SH2 := Lib.hid S2
      clear S2 bC SH1
      go_wp2_with fail
      refine SH2.out.mono ?_
      rintro e wD ⟨rfl, bD⟩
      go_wp2_with fail
      go_ret
      exact ⟨rfl, HB6.trans (bD.mono HB6.size)⟩
end Go.Proofs.YtopmdbmnlflpgaaDoor
