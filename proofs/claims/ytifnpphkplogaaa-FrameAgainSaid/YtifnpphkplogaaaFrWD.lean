/- Layer 10: are two frames one; are two bundles one. Printed by gen_frn.py. | Layer 10: the chapter's examples. | Layer 10: the chapter's examples hold. | Layer 10: arguments that are frames, bundles. Printed by gen_frarg.py. | Layer 10: what the laws' walks share. -/
import Derived.Test.YtifnpphkplogaaaFrWC
import Derived.Laws.StructEq
import Derived.Test.YtifnpphkplogaaaAw9
import Derived.Test.YtifnpphkplogaaaItArg
import Derived.Test.YtifnpphkplogaaaFrWA
namespace Go.Proofs.Ytifnpphkplogaaa
section
section
open Go.RowKit
theorem run_equal8d (d : Nat) (l m : List UInt8) (hl : l.length = 32) (hm : m.length = 32) (w : World) :
    (Op.equalIn (d + 2) 72 (.agg (u8s l)) (.agg (u8s m))).run Try.prog w = .ok (decide (l = m)) w := by
  obtain ⟨i, hi⟩ := Option.isSome_iff_exists.1 (show (Try.prog.info? 5).isSome = true by kernel_rfl)
  rw [run_equalIn_array w (d + 1) (u8s l) (u8s m) Try.underlying72 hi, show Try.prog.cellsOf 5 = 1 by kernel_rfl, run_eqItems8 Try.underlying5 d l m w (List.range 32) (fun j hj => by rw [List.mem_range] at hj; omega)]
  refine congrArg (fun b => Result.ok b w) ?_
  rw [Bool.eq_iff_iff, List.all_eq_true, decide_eq_true_eq]
  constructor
  · intro h
    exact ext8' (by omega) fun x hx => by have := h x (by rw [List.mem_range]; omega); simpa using this
  · rintro rfl; simp
theorem part_key (w : World) (cs : List Value) (off : Nat) (K : List UInt8) (h : (cs.drop off).take 32 = u8v K) : (part 72 cs.toArray off).run Try.prog w = .ok (.agg (u8s K)) w := by
  have e : cs.toArray.extract off (off + 32) = u8s K := by
    rw [u8s_toArray, ← h]
    simp [List.extract_eq_take_drop]
  obtain ⟨i, hi⟩ := Option.isSome_iff_exists.1 (show (Try.prog.info? 72).isSome = true by kernel_rfl)
  rw [← e]
  simp only [part, isAgg, Sem.run_bind, run_underlying Try.underlying72, run_sizeOf w hi, show Try.prog.cellsOf 72 = 32 by kernel_rfl, Result.andThen_ok, Sem.run_pure, if_true]
theorem eqFields_step {P : Program} (w : World) (d : Nat) (xs ys : Array Value) (f : Field) (fs : List Field) {a b : Value} {r : Bool} (hn : f.name ≠ "_") (p : (part f.type xs f.offset).run P w = .ok a w) (q : (part f.type ys f.offset).run P w = .ok b w)
    (e : (Op.equalIn d f.type a b).run P w = .ok r w) : (Op.eqFields d xs ys (f :: fs)).run P w = if r = true then (Op.eqFields d xs ys fs).run P w else .ok false w := by
  simp only [Op.eqFields, hn, ne_eq, not_false_eq_true, if_true, Sem.run_bind, p, q, e, Result.andThen_ok]
  cases r <;> simp
theorem eqFields_nil {P : Program} (w : World) (d : Nat) (xs ys : Array Value) : (Op.eqFields d xs ys []).run P w = .ok true w := by simp [Op.eqFields]
theorem buFields : (Try.prog.fieldsOf 88).toList.map (fun f => (f.name, f.type, f.offset)) = [("Chain", 72, 0), ("Epoch", 72, 32), ("Sign", 72, 64), ("Noise", 72, 96)] := by kernel_rfl
theorem bu_parts (w : World) (x : BuP) (hw : x.WF) : (part 72 (buC x) 0).run Try.prog w = .ok (.agg (u8s x.chain)) w ∧ (part 72 (buC x) 32).run Try.prog w = .ok (.agg (u8s x.epo)) w ∧
    (part 72 (buC x) 64).run Try.prog w = .ok (.agg (u8s x.sign)) w ∧ (part 72 (buC x) 96).run Try.prog w = .ok (.agg (u8s x.noise)) w := by
  have e : flatK [x.chain, x.epo, x.sign, x.noise] = u8v x.chain ++ (u8v x.epo ++ (u8v x.sign ++ u8v x.noise)) := by simp [flatK]
  have l1 : (u8v x.chain).length = 32 := by rw [u8v_length, hw.chain]
  have l2 : (u8v x.epo).length = 32 := by rw [u8v_length, hw.epo]
  have l3 : (u8v x.sign).length = 32 := by rw [u8v_length, hw.sign]
  have l4 : (u8v x.noise).length = 32 := by rw [u8v_length, hw.noise]
  rw [buC_def, e]
  refine ⟨part_key w _ _ _ ?_, part_key w _ _ _ ?_, part_key w _ _ _ ?_, part_key w _ _ _ ?_⟩
  · rw [List.drop_zero, List.take_append_of_le_length (by omega), List.take_of_length_le (by omega)]
  · rw [List.drop_append, List.drop_of_length_le (by omega), l1, List.nil_append, List.drop_zero, List.take_append_of_le_length (by omega), List.take_of_length_le (by omega)]
  · rw [List.drop_append, List.drop_of_length_le (by omega), l1, List.nil_append, List.drop_append, List.drop_of_length_le (by omega), l2, List.nil_append, List.drop_zero, List.take_append_of_le_length (by omega), List.take_of_length_le (by omega)]
  · rw [List.drop_append, List.drop_of_length_le (by omega), l1, List.nil_append, List.drop_append, List.drop_of_length_le (by omega), l2, List.nil_append, List.drop_append, List.drop_of_length_le (by omega), l3, List.nil_append, List.drop_zero, List.take_of_length_le (by omega)]
def sameBu (x y : BuP) : Bool := decide (x.chain = y.chain) && (decide (x.epo = y.epo) && (decide (x.sign = y.sign) && decide (x.noise = y.noise)))
theorem sameBu_iff (x y : BuP) : sameBu x y = true ↔ x = y := by
  unfold sameBu
  simp only [Bool.and_eq_true, decide_eq_true_eq]
  cases x; cases y
  simp
theorem eqBud (d : Nat) (x y : BuP) (hx : x.WF) (hy : y.WF) (w : World) : (Op.equalIn (d + 3) 88 (.agg (buC x)) (.agg (buC y))).run Try.prog w = .ok (sameBu x y) w := by
  rw [run_equalIn_struct w (d + 2) 88 (buC x) (buC y) (by kernel_rfl) (by kernel_rfl)]
  obtain ⟨fs, hfs⟩ : ∃ fs, fs = (Try.prog.fieldsOf 88).toList := ⟨_, rfl⟩
  have h := buFields
  rw [← hfs] at h ⊢
  clear hfs
  obtain ⟨p1, p2, p3, p4⟩ := bu_parts w x hx
  obtain ⟨q1, q2, q3, q4⟩ := bu_parts w y hy
  have hl : fs.length = 4 := by simpa using congrArg List.length h
  match fs, hl, h with
  | [a, b, c, z], _, h =>
    simp only [List.map_cons, List.map_nil, List.cons.injEq, Prod.mk.injEq, and_true] at h
    obtain ⟨⟨a1, a2, a3⟩, ⟨b1, b2, b3⟩, ⟨c1, c2, c3⟩, d1, d2, d3⟩ := h
    have E1 := run_equal8d d x.chain y.chain hx.chain hy.chain w
    have E2 := run_equal8d d x.epo y.epo hx.epo hy.epo w
    have E3 := run_equal8d d x.sign y.sign hx.sign hy.sign w
    have E4 := run_equal8d d x.noise y.noise hx.noise hy.noise w
    have n1 : a.name ≠ "_" := by rw [a1]; decide
    have n2 : b.name ≠ "_" := by rw [b1]; decide
    have n3 : c.name ≠ "_" := by rw [c1]; decide
    have n4 : z.name ≠ "_" := by rw [d1]; decide
    unfold sameBu
    rw [← a2] at E1; rw [← b2] at E2; rw [← c2] at E3; rw [← d2] at E4
    rw [← a2] at p1 q1; rw [← b2] at p2 q2; rw [← c2] at p3 q3; rw [← d2] at p4 q4
    rw [eqFields_step _ _ _ _ _ _ n1 (by rw [a3]; exact p1) (by rw [a3]; exact q1) E1, eqFields_step _ _ _ _ _ _ n2 (by rw [b3]; exact p2) (by rw [b3]; exact q2) E2,
      eqFields_step _ _ _ _ _ _ n3 (by rw [c3]; exact p3) (by rw [c3]; exact q3) E3, eqFields_step _ _ _ _ _ _ n4 (by rw [d3]; exact p4) (by rw [d3]; exact q4) E4, eqFields_nil]
    cases decide (x.chain = y.chain)
    · rfl
    · cases decide (x.epo = y.epo)
      · rfl
      · cases decide (x.sign = y.sign)
        · rfl
        · cases decide (x.noise = y.noise) <;> rfl
theorem eqBu (x y : BuP) (hx : x.WF) (hy : y.WF) (w : World) : (Op.equalIn 10000 88 (.agg (buC x)) (.agg (buC y))).run Try.prog w = .ok (sameBu x y) w := eqBud 9997 x y hx hy w
def sameF (f g : FrP) : Bool := decide (f.idx = g.idx ∧ f.ack = g.ack ∧ f.eph = g.eph ∧ f.epo = g.epo ∧ f.nxt = g.nxt ∧ f.box = g.box ∧ f.sign = g.sign)
theorem sameF_iff (f g : FrP) : sameF f g = true ↔ f = g := by
  unfold sameF
  rw [decide_eq_true_eq]
  cases f; cases g
  simp
theorem sameF_self (f : FrP) : sameF f f = true := (sameF_iff f f).2 rfl

set_option maxRecDepth 100000 in
set_option maxHeartbeats 3200000 in
theorem frsame_any (f g : FrP) (va vb : Value) (w : World) (hf : FrV w f va) (hg : FrV w g vb) (hn : f.sign.length ≤ 1000000) (hm : g.sign.length ≤ 1000000) :
    Calls Try.prog 52 #[va, vb] w (fun e w' => e = .returned (.bool (sameF f g)) ∧ Below w.heap.size w w') := by
  obtain ⟨v1, v2, rfl, hwf, hb1, hs1⟩ := id hf
  obtain ⟨u1, u2, rfl, hwg, hb2, hs2⟩ := id hg
  obtain ⟨A1, c1, rfl, -⟩ := id hb1
  obtain ⟨B1, d1, rfl, -⟩ := id hs1
  obtain ⟨A2, c2, rfl, -⟩ := id hb2
  obtain ⟨B2, d2, rfl, -⟩ := id hs2
  have B : Below w.heap.size w ((w.alloc (.cells (frC f (.slice A1 f.box.length c1) (.slice B1 f.sign.length d1)) 80)).alloc (.cells (frC g (.slice A2 g.box.length c2) (.slice B2 g.sign.length d2)) 80)) := (by repeat (first | with_reducible exact Below.refl _ _ | with_reducible assumption | refine Below.drew ?_ | refine below_drewN ?_ | refine Below.alloc ?_ (by first | omega | (simp; done) | (simp; omega)) _ | refine below_setRow ?_ (by omega) _ | refine Below.setCell ?_ (by first | omega | (simp; done) | (simp; omega)) _))
  have R1 : RowIs ((w.alloc (.cells (frC f (.slice A1 f.box.length c1) (.slice B1 f.sign.length d1)) 80)).alloc (.cells (frC g (.slice A2 g.box.length c2) (.slice B2 g.sign.length d2)) 80)) w.heap.size (frC f (.slice A1 f.box.length c1) (.slice B1 f.sign.length d1)) := (RowIs.new _ _ _).alloc _
  have R2 : RowIs ((w.alloc (.cells (frC f (.slice A1 f.box.length c1) (.slice B1 f.sign.length d1)) 80)).alloc (.cells (frC g (.slice A2 g.box.length c2) (.slice B2 g.sign.length d2)) 80)) (w.heap.size + 1) (frC g (.slice A2 g.box.length c2) (.slice B2 g.sign.length d2)) := RowIs.new' (by simp)
  obtain ⟨x0, x1, x5, x6⟩ := fr_cells R1 hwf
  obtain ⟨y0, y1, y5, y6⟩ := fr_cells R2 hwg
  obtain ⟨k0, k1, k2⟩ := fr_keys R1 hwf
  obtain ⟨l0, l1, l2⟩ := fr_keys R2 hwg
  have E0 := fun W => run_equal8d 9998 f.eph g.eph hwf.eph hwg.eph W
  have E1 := fun W => run_equal8d 9998 f.epo g.epo hwf.epo hwg.epo W
  have E2 := fun W => run_equal8d 9998 f.nxt g.nxt hwf.nxt hwg.nxt W
  have SB := refSame_bs (hb1.step B) (hb2.step B)
  have HS := Lib.hid SB
  have HK := Lib.hid (fun W h1 h2 => keys_cmp (.slice B1 f.sign.length d1) (.slice B2 g.sign.length d2) f.sign g.sign hwf.sign hwg.sign hn hm W h1 h2)
  have hs1' := hs1.step B
  have hs2' := hs2.step B
  clear SB hf hg hb1 hb2 hs1 hs2
  have no : ¬ (f.idx = g.idx ∧ f.ack = g.ack ∧ f.eph = g.eph ∧ f.epo = g.epo ∧ f.nxt = g.nxt ∧ f.box = g.box ∧ f.sign = g.sign) → sameF f g = false := fun h => decide_eq_false h
  have NO := Lib.hid no
  have R1' := R1; have R2' := R2
  clear no
  by_cases h0 : f.idx = g.idx
  · have g0 : ((f.idx : Int) != (g.idx : Int)) = false := by rw [h0]; simp
    by_cases h1 : f.ack = g.ack
    · have g1 : ((f.ack : Int) != (g.ack : Int)) = false := by rw [h1]; simp
      by_cases h2 : f.eph = g.eph
      · rw [decide_eq_true h2] at E0
        by_cases h3 : f.epo = g.epo
        · rw [decide_eq_true h3] at E1
          by_cases h4 : f.nxt = g.nxt
          · rw [decide_eq_true h4] at E2
            have HB := Lib.hid (And.intro h0 (And.intro h1 (And.intro h2 (And.intro h3 h4))))
            clear h0 h1 h2 h3 h4
            by_cases h5 : f.box = g.box
            · rw [decide_eq_true h5] at HS
              have H5 := Lib.hid h5
              clear h5
              go_enter Try.func52, Try.ntmps52
              go_wp2_with fail
              refine HS.out.mono ?_
              rintro e w2 ⟨rfl, b2⟩
              have R3 := R1'.step b2
              have R4 := R2'.step b2
              have hs3 := hs1'.step b2
              have hs4 := hs2'.step b2
              obtain ⟨z0, z1, z5, z6⟩ := fr_cells R3 hwf
              obtain ⟨t0, t1, t5, t6⟩ := fr_cells R4 hwg
              have B3 := B.trans (b2.mono B.size)
              go_wp2_with fail
              refine (HK.out _ hs3 hs4).mono ?_
              rintro e w3 ⟨rfl, b3⟩
              go_wp2_with fail
              go_ret
              refine ⟨?_, B3.trans (b3.mono B3.size)⟩
              have hd : decide (f.sign = g.sign) = sameF f g := by
                unfold sameF
                obtain ⟨a0, a1, a2, a3, a4⟩ := HB.out
                have a5 := H5.out
                by_cases h6 : f.sign = g.sign
                · rw [decide_eq_true h6, decide_eq_true ⟨a0, a1, a2, a3, a4, a5, h6⟩]
                · rw [decide_eq_false h6, decide_eq_false (fun e => h6 e.2.2.2.2.2.2)]
              rw [← hd]; rfl
            · rw [decide_eq_false h5] at HS
              have RES := Lib.hid (NO.out (fun e => h5 e.2.2.2.2.2.1))
              clear h5
              go_enter Try.func52, Try.ntmps52
              go_wp2_with fail
              refine HS.out.mono ?_
              rintro e w2 ⟨rfl, b2⟩
              have B3 := B.trans (b2.mono B.size)
              go_wp2_with fail
              go_ret
              exact ⟨by rw [RES.out]; rfl, B3⟩
          · rw [decide_eq_false h4] at E2
            have RES := Lib.hid (NO.out (fun e => h4 e.2.2.2.2.1))
            clear h0 h1 h2 h3 h4
            go_enter Try.func52, Try.ntmps52
            go_wp2_with fail
            go_ret
            exact ⟨by rw [RES.out]; rfl, B⟩
        · rw [decide_eq_false h3] at E1
          have RES := Lib.hid (NO.out (fun e => h3 e.2.2.2.1))
          clear h0 h1 h2 h3
          go_enter Try.func52, Try.ntmps52
          go_wp2_with fail
          go_ret
          exact ⟨by rw [RES.out]; rfl, B⟩
      · rw [decide_eq_false h2] at E0
        have RES := Lib.hid (NO.out (fun e => h2 e.2.2.1))
        clear h0 h1 h2
        go_enter Try.func52, Try.ntmps52
        go_wp2_with fail
        go_ret
        exact ⟨by rw [RES.out]; rfl, B⟩
    · have g1 : ((f.ack : Int) != (g.ack : Int)) = true := by rw [bne_iff_ne]; omega
      have RES := Lib.hid (NO.out (fun e => h1 e.2.1))
      clear h0 h1
      go_enter Try.func52, Try.ntmps52
      go_wp2_with fail
      go_ret
      exact ⟨by rw [RES.out]; rfl, B⟩
  · have g0 : ((f.idx : Int) != (g.idx : Int)) = true := by rw [bne_iff_ne]; omega
    have RES := Lib.hid (NO.out (fun e => h0 e.1))
    clear h0
    go_enter Try.func52, Try.ntmps52
    go_wp2_with fail
    go_ret
    exact ⟨by rw [RES.out]; rfl, B⟩
end
end
section
section
open Go.RowKit
def kOne : List UInt8 := 1 :: List.replicate 31 0
def kTwo : List UInt8 := 2 :: List.replicate 31 0
theorem kB1 (w : World) : (buildK 72 #[(0, .int .u8 1)]).run Try.prog w = .ok (.value (.agg (u8s kOne))) w := run_buildK (by
  rw [u8s_toArray, u8v_def, kOne]; kernel_rfl) w
theorem kB2 (w : World) : (buildK 72 #[(0, .int .u8 2)]).run Try.prog w = .ok (.value (.agg (u8s kTwo))) w := run_buildK (by
  rw [u8s_toArray, u8v_def, kTwo]; kernel_rfl) w
def xBu : BuP := ⟨kOne, z32, z32, kTwo⟩
theorem xBu_wf : xBu.WF := ⟨by simp [xBu, kOne], by simp [xBu], by simp [xBu], by simp [xBu, kTwo]⟩
theorem buB03 (w : World) : (buildK 88 #[(0, .agg (u8s kOne)), (3, .agg (u8s kTwo))]).run Try.prog w = .ok (.value (.agg (buC xBu))) w := run_buildK (by
  rw [buBuilt, u8s_toArray, u8s_toArray, u8v_def, u8v_def, u8v_def, buC_def, flatK]
  simp only [List.flatMap_cons, List.flatMap_nil, u8v_def, xBu, zeros_def, kOne, kTwo]
  kernel_rfl) w
theorem flatK_z (n : Nat) : flatK (List.replicate n z32) = List.replicate (n * 32) (.int .u8 0) := by
  induction n with
  | zero => simp [flatK]
  | succ n ih =>
    have e : u8v z32 = List.replicate 32 (.int .u8 0) := by rw [u8v_def]; simp [n8_def]
    have : flatK (List.replicate (n + 1) z32) = u8v z32 ++ flatK (List.replicate n z32) := by rw [List.replicate_succ]; simp [flatK]
    rw [this, ih, e, List.replicate_append_replicate]
    congr 1; omega
theorem madeK (n : Nat) : madeCells (Value.agg (Array.replicate 32 (.int .u8 0))).cells (n * 32) = (List.replicate (n * 32) (.int .u8 0)).toArray := by
  obtain ⟨z, hz⟩ : ∃ z, z = (32 : Nat) := ⟨_, rfl⟩
  rw [← hz]
  apply Array.ext
  · simp [size_madeCells]
  · intro j h1 h2
    have hj : j % z < z := Nat.mod_lt _ (by omega)
    simp [madeCells, Value.cells, getElem!_def, hj]
theorem mk67 (w : World) : (Instr.makeSlice 41 (.int .i64 67) (.int .i64 67)).run Try.prog w = .ok (.slice (some ⟨w.heap.size, 0, none⟩) 67 67) (w.alloc (.cells (flatK (List.replicate 67 z32)).toArray 72)) := by
  obtain ⟨i, hi, h⟩ := Option.map_eq_some_iff.1 keyInfo
  simp only [Prod.mk.injEq] at h
  obtain ⟨hz, hs, hb⟩ := h
  have := run_make w 41 72 i _ Try.underlying41 hi hz .i64 .i64 67 67 (by omega) (by omega) (by rw [hb]; omega) (by omega)
  rw [this, hs]
  have e : madeCells (Value.agg (Array.replicate 32 (.int .u8 0))).cells (Int.toNat 67 * 32) = (flatK (List.replicate 67 z32)).toArray := by
    rw [flatK_z]; exact madeK 67
  rw [e]
  rfl
def someF : FrP := ⟨1, 0, z32, z32, z32, List.replicate 64 0, List.replicate 67 z32⟩
def frOf (n : Nat) : FrP := ⟨1, 0, z32, z32, z32, List.replicate n 0, []⟩
theorem someF_wf : someF.WF := ⟨by simp [someF], by simp [someF], by simp [someF], by simp [someF], by simp [someF], fun k hk => by
  have := List.eq_of_mem_replicate (show k ∈ List.replicate 67 z32 from hk)
  rw [this]; simp⟩
theorem frOf_wf (n : Nat) : (frOf n).WF := ⟨by simp [frOf], by simp [frOf], by simp [frOf], by simp [frOf], by simp [frOf], fun k hk => by simp [frOf] at hk⟩
theorem z32_all (n : Nat) : ∀ k ∈ List.replicate n z32, k.length = 32 := fun k hk => by rw [List.eq_of_mem_replicate hk]; simp
def SomeTo (w : World) (e : Ending) (w' : World) : Prop := ∃ v, e = .returned v ∧ FrV w' someF v ∧ Below w.heap.size w w'
attribute [local go_sem] zcFr frBuild0
set_option maxRecDepth 100000 in
set_option maxHeartbeats 3200000 in
theorem some_any (w : World) : Calls Try.prog 82 #[] w (SomeTo w) := by
  have m1 : ∀ w, (Instr.makeSlice 25 (.int .i64 64) (.int .i64 64)).run Try.prog w = .ok (.slice (some ⟨w.heap.size, 0, none⟩) 64 64) (w.alloc (.cells (u8s (List.replicate 64 0)) 5)) := fun w => run_make8 Try.underlying25 Try.info8 64 (by omega) w
  have m2 := mk67
  have hbd : ∀ (A A2 : Option Addr) (w : World), (buildK 80 #[(0, .int .u32 1), (5, .slice A 64 64), (6, .slice A2 67 67)]).run Try.prog w = .ok (.value (.agg (frC someF (.slice A 64 64) (.slice A2 67 67)))) w := fun A A2 w => by
    have := frBuild056 1 (by omega) A A2 64 64 67 67 w
    rw [← frC_box _ (List.replicate 64 0) (List.replicate 67 z32)] at this
    exact this
  have hz4 := frC_size fr_zero_wf (.slice none 0 0) (.slice none 0 0)
  have hst : ∀ (W : World) (A A2 : Option Addr) (h : (rowOf W w.heap.size).size = 100), (storeAgg 80 (.pointer (some ⟨w.heap.size, 0, none⟩)) (.agg (frC someF (.slice A 64 64) (.slice A2 67 67)))).run Try.prog W = .ok .skip (W.setRow w.heap.size (frC someF (.slice A 64 64) (.slice A2 67 67))) := fun W A A2 h => frStore W _ someF _ _ rfl rfl someF_wf h
  have R0 : RowIs (w.alloc (.cells (frC FrP.zero (.slice none 0 0) (.slice none 0 0)) 80)) w.heap.size (frC FrP.zero (.slice none 0 0) (.slice none 0 0)) := RowIs.new _ _ _
  obtain ⟨bz, hbz⟩ : ∃ bz, bz = List.replicate 64 (0 : UInt8) := ⟨_, rfl⟩
  obtain ⟨kz, hkz⟩ : ∃ kz, kz = (flatK (List.replicate 67 z32)).toArray := ⟨_, rfl⟩
  rw [← hbz] at m1
  rw [← hkz] at m2
  have h1 := hst (((w.alloc (.cells (frC FrP.zero (.slice none 0 0) (.slice none 0 0)) 80)).alloc (.cells (u8s bz) 5)).alloc (.cells kz 72)).drew (some ⟨w.heap.size + 1, 0, none⟩) (some ⟨w.heap.size + 1 + 1, 0, none⟩) (by rw [((R0.alloc _).alloc _).drew.has]; exact hz4)
  have h2 := hst (((w.alloc (.cells (frC FrP.zero (.slice none 0 0) (.slice none 0 0)) 80)).alloc (.cells kz 72)).alloc (.cells (u8s bz) 5)).drew (some ⟨w.heap.size + 1 + 1, 0, none⟩) (some ⟨w.heap.size + 1, 0, none⟩) (by rw [((R0.alloc _).alloc _).drew.has]; exact hz4)
  clear hst
  have HBZ := Lib.hid hbz; have HKZ := Lib.hid hkz
  clear hbz hkz
  have BA : Below w.heap.size w (((w.alloc (.cells (frC someF (.slice (some ⟨w.heap.size + 1, 0, none⟩) 64 64) (.slice (some ⟨w.heap.size + 1 + 1, 0, none⟩) 67 67)) 80)).alloc (.cells (u8s bz) 5)).alloc (.cells kz 72)).drew := (by repeat (first | with_reducible exact Below.refl _ _ | with_reducible assumption | refine Below.drew ?_ | refine below_drewN ?_ | refine Below.alloc ?_ (by first | omega | (simp; done) | (simp; omega)) _ | refine below_setRow ?_ (by omega) _ | refine Below.setCell ?_ (by first | omega | (simp; done) | (simp; omega)) _))
  have BB : Below w.heap.size w (((w.alloc (.cells (frC someF (.slice (some ⟨w.heap.size + 1 + 1, 0, none⟩) 64 64) (.slice (some ⟨w.heap.size + 1, 0, none⟩) 67 67)) 80)).alloc (.cells kz 72)).alloc (.cells (u8s bz) 5)).drew := (by repeat (first | with_reducible exact Below.refl _ _ | with_reducible assumption | refine Below.drew ?_ | refine below_drewN ?_ | refine Below.alloc ?_ (by first | omega | (simp; done) | (simp; omega)) _ | refine below_setRow ?_ (by omega) _ | refine Below.setCell ?_ (by first | omega | (simp; done) | (simp; omega)) _))
  have hkl : (List.replicate 67 z32).length = 67 := List.length_replicate
  have hbl : someF.box.length = 64 := List.length_replicate
  have Ra : RowIs (((w.alloc (.cells (frC someF (.slice (some ⟨w.heap.size + 1, 0, none⟩) 64 64) (.slice (some ⟨w.heap.size + 1 + 1, 0, none⟩) 67 67)) 80)).alloc (.cells (u8s bz) 5)).alloc (.cells kz 72)).drew w.heap.size (frC someF (.slice (some ⟨w.heap.size + 1, 0, none⟩) 64 64) (.slice (some ⟨w.heap.size + 1 + 1, 0, none⟩) 67 67)) := (((RowIs.new _ _ _).alloc _).alloc _).drew
  have Rb : RowIs (((w.alloc (.cells (frC someF (.slice (some ⟨w.heap.size + 1 + 1, 0, none⟩) 64 64) (.slice (some ⟨w.heap.size + 1, 0, none⟩) 67 67)) 80)).alloc (.cells kz 72)).alloc (.cells (u8s bz) 5)).drew w.heap.size (frC someF (.slice (some ⟨w.heap.size + 1 + 1, 0, none⟩) 64 64) (.slice (some ⟨w.heap.size + 1, 0, none⟩) 67 67)) := (((RowIs.new _ _ _).alloc _).alloc _).drew
  have ba : RowIs (((w.alloc (.cells (frC someF (.slice (some ⟨w.heap.size + 1, 0, none⟩) 64 64) (.slice (some ⟨w.heap.size + 1 + 1, 0, none⟩) 67 67)) 80)).alloc (.cells (u8s bz) 5)).alloc (.cells kz 72)).drew (w.heap.size + 1) (u8s bz) := ((RowIs.new' (by simp)).alloc _).drew
  have bb : RowIs (((w.alloc (.cells (frC someF (.slice (some ⟨w.heap.size + 1 + 1, 0, none⟩) 64 64) (.slice (some ⟨w.heap.size + 1, 0, none⟩) 67 67)) 80)).alloc (.cells kz 72)).alloc (.cells (u8s bz) 5)).drew (w.heap.size + 1 + 1) (u8s bz) := (RowIs.new' (by simp)).drew
  have ka : RowIs (((w.alloc (.cells (frC someF (.slice (some ⟨w.heap.size + 1, 0, none⟩) 64 64) (.slice (some ⟨w.heap.size + 1 + 1, 0, none⟩) 67 67)) 80)).alloc (.cells (u8s bz) 5)).alloc (.cells kz 72)).drew (w.heap.size + 1 + 1) kz := (RowIs.new' (by simp)).drew
  have kb : RowIs (((w.alloc (.cells (frC someF (.slice (some ⟨w.heap.size + 1 + 1, 0, none⟩) 64 64) (.slice (some ⟨w.heap.size + 1, 0, none⟩) 67 67)) 80)).alloc (.cells kz 72)).alloc (.cells (u8s bz) 5)).drew (w.heap.size + 1) kz := ((RowIs.new' (by simp)).alloc _).drew
  have FA : FrV (((w.alloc (.cells (frC someF (.slice (some ⟨w.heap.size + 1, 0, none⟩) 64 64) (.slice (some ⟨w.heap.size + 1 + 1, 0, none⟩) 67 67)) 80)).alloc (.cells (u8s bz) 5)).alloc (.cells kz 72)).drew someF (.agg (frC someF (.slice (some ⟨w.heap.size + 1, 0, none⟩) 64 64) (.slice (some ⟨w.heap.size + 1 + 1, 0, none⟩) 67 67))) := ⟨_, _, rfl, someF_wf, by rw [show someF.box = bz from HBZ.out.symm]; exact Bs.row ba 64 64 (by rw [HBZ.out]; exact hbl.symm) (by omega) (by omega), KsL.rowN (z32_all 67) hkl (by rw [show (flatK someF.sign).toArray = kz from HKZ.out.symm]; exact ka)⟩
  have FB : FrV (((w.alloc (.cells (frC someF (.slice (some ⟨w.heap.size + 1 + 1, 0, none⟩) 64 64) (.slice (some ⟨w.heap.size + 1, 0, none⟩) 67 67)) 80)).alloc (.cells kz 72)).alloc (.cells (u8s bz) 5)).drew someF (.agg (frC someF (.slice (some ⟨w.heap.size + 1 + 1, 0, none⟩) 64 64) (.slice (some ⟨w.heap.size + 1, 0, none⟩) 67 67))) := ⟨_, _, rfl, someF_wf, by rw [show someF.box = bz from HBZ.out.symm]; exact Bs.row bb 64 64 (by rw [HBZ.out]; exact hbl.symm) (by omega) (by omega), KsL.rowN (z32_all 67) hkl (by rw [show (flatK someF.sign).toArray = kz from HKZ.out.symm]; exact kb)⟩
  have HRa := Lib.hid Ra.has; have HRb := Lib.hid Rb.has
  clear ba bb ka kb Ra Rb hkl hbl
  go_enter Try.func82, Try.ntmps82
  go_wp2_with fail
  go_region
  all_goals
    go_wp2_with fail
    first
      | (refine bodyPost_retRow 0 80 w.heap.size 100 rfl rfl (by omega) (by kernel_rfl) (by kernel_rfl) (by rw [HRa.out]; exact frC_size someF_wf _ _) rfl ?_
         exact ⟨_, rfl, by rw [HRa.out]; exact FA, BA⟩)
      | (refine bodyPost_retRow 0 80 w.heap.size 100 rfl rfl (by omega) (by kernel_rfl) (by kernel_rfl) (by rw [HRb.out]; exact frC_size someF_wf _ _) rfl ?_
         exact ⟨_, rfl, by rw [HRb.out]; exact FB, BB⟩)
end
end
section
section
open Go.RowKit
theorem ck_zero : checkP FrP.zero = 51 := by decide +kernel
theorem ck_63 : checkP (frOf 63) = 3 := by decide +kernel
theorem ck_64 : checkP (frOf 64) = 40 := by decide +kernel
theorem ck_some : checkP someF = 0 := by decide +kernel
theorem enc_some : (encFP someF).2 = 0 := by unfold encFP; rw [if_pos ck_some]
theorem len_some : (encFP someF).1.length = 2319 := by
  unfold encFP
  rw [if_pos ck_some, fr_len someF_wf]
  decide +kernel
attribute [local go_sem] zcFr frBuild0 buZ zcBu
attribute [local go_sem ↓] xkeyBuild
attribute [local go_sem] kB1 kB2 buB03
set_option maxRecDepth 100000 in
set_option maxHeartbeats 3200000 in
theorem awake10_any (w : World) : Calls Try.prog 44 #[] w (TrueRes' w) := by
  have m3 : ∀ w, (Instr.makeSlice 25 (.int .i64 63) (.int .i64 63)).run Try.prog w = .ok (.slice (some ⟨w.heap.size, 0, none⟩) 63 63) (w.alloc (.cells (u8s (List.replicate 63 0)) 5)) := fun w => run_make8 Try.underlying25 Try.info8 63 (by omega) w
  have m4 : ∀ w, (Instr.makeSlice 25 (.int .i64 64) (.int .i64 64)).run Try.prog w = .ok (.slice (some ⟨w.heap.size, 0, none⟩) 64 64) (w.alloc (.cells (u8s (List.replicate 64 0)) 5)) := fun w => run_make8 Try.underlying25 Try.info8 64 (by omega) w
  have b3 : ∀ (A : Option Addr) (w : World), (buildK 80 #[(0, .int .u32 1), (5, .slice A 63 63)]).run Try.prog w = .ok (.value (.agg (frC (frOf 63) (.slice A 63 63) (.slice none 0 0)))) w := fun A w => by
    have := frBuild05 1 (by omega) A 63 63 w
    rw [← frC_box _ (List.replicate 63 0) []] at this
    exact this
  have b4 : ∀ (A : Option Addr) (w : World), (buildK 80 #[(0, .int .u32 1), (5, .slice A 64 64)]).run Try.prog w = .ok (.value (.agg (frC (frOf 64) (.slice A 64 64) (.slice none 0 0)))) w := fun A w => by
    have := frBuild05 1 (by omega) A 64 64 w
    rw [← frC_box _ (List.replicate 64 0) []] at this
    exact this
  have q3 : ∀ w : World, FrV (w.alloc (.cells (u8s (List.replicate 63 0)) 5)) (frOf 63) (.agg (frC (frOf 63) (.slice (some ⟨w.heap.size, 0, none⟩) 63 63) (.slice none 0 0))) := fun w =>
    ⟨_, _, rfl, frOf_wf 63, Bs.row (RowIs.new _ _ _) 63 63 List.length_replicate.symm (by omega) (by omega), KsL.nil _⟩
  have q4 : ∀ w : World, FrV (w.alloc (.cells (u8s (List.replicate 64 0)) 5)) (frOf 64) (.agg (frC (frOf 64) (.slice (some ⟨w.heap.size, 0, none⟩) 64 64) (.slice none 0 0))) := fun w =>
    ⟨_, _, rfl, frOf_wf 64, Bs.row (RowIs.new _ _ _) 64 64 List.length_replicate.symm (by omega) (by omega), KsL.nil _⟩
  have C1 := fun w => check_any FrP.zero _ w (frv_zero w)
  have C3 := fun w => check_any (frOf 63) _ _ (q3 w)
  have C4 := fun w => check_any (frOf 64) _ _ (q4 w)
  have E1 := fun v W h => frenc_any someF v W h
  unfold NumTo at C1 C3 C4
  unfold PairTo at E1
  rw [ck_zero] at C1; rw [ck_63] at C3; rw [ck_64] at C4; rw [enc_some] at E1
  have D1 := fun v W h => budec_any v (encBP xBu) W h
  unfold BuTo at D1
  rw [(bu_back xBu_wf).1] at D1
  have hst : ∀ (W : World), (storeAgg 88 (.pointer (some ⟨W.heap.size, 0, none⟩)) (.agg (buC xBu))).run Try.prog (W.alloc (.cells (buC BuP.zero) 88)) = .ok .skip ((W.alloc (.cells (buC BuP.zero) 88)).setRow W.heap.size (buC xBu)) := fun W =>
    buStore _ _ xBu xBu_wf (by rw [(RowIs.new W _ _).has]; exact buC_size zero_wf)
  have hz1 := buC_size zero_wf
  have EQ := fun W => eqBu xBu xBu xBu_wf xBu_wf W
  rw [(sameBu_iff xBu xBu).2 rfl] at EQ
  obtain ⟨z3, hz3⟩ : ∃ z3, z3 = List.replicate 63 (0 : UInt8) := ⟨_, rfl⟩
  obtain ⟨z4, hz4⟩ : ∃ z4, z4 = List.replicate 64 (0 : UInt8) := ⟨_, rfl⟩
  rw [← hz3] at m3 C3
  rw [← hz4] at m4 C4
  have H1 := Lib.hid C1; have H3 := Lib.hid C3; have H4 := Lib.hid C4; have HE := Lib.hid E1; have HD := Lib.hid D1
  clear C1 C3 C4 E1 D1 q3 q4 hz3 hz4
  go_enter Try.func44, Try.ntmps44
  go_wp2_with fail
  refine (H1.out _).mono ?_
  rintro e w1 ⟨rfl, b1⟩
  go_wp2_with fail
  refine (H3.out _).mono ?_
  rintro e w2 ⟨rfl, b2⟩
  have B2 := b1.trans (((show Below w1.heap.size w1 (w1.alloc (.cells (u8s z3) 5)) by exact (by repeat (first | with_reducible exact Below.refl _ _ | with_reducible assumption | refine Below.drew ?_ | refine below_drewN ?_ | refine Below.alloc ?_ (by first | omega | (simp; done) | (simp; omega)) _ | refine below_setRow ?_ (by omega) _ | refine Below.setCell ?_ (by first | omega | (simp; done) | (simp; omega)) _))).trans (b2.mono (by simp))).mono b1.size)
  go_wp2_with fail
  refine (H4.out _).mono ?_
  rintro e w3 ⟨rfl, b3⟩
  have B3 := B2.trans (((show Below w2.heap.size w2 (w2.alloc (.cells (u8s z4) 5)) by exact (by repeat (first | with_reducible exact Below.refl _ _ | with_reducible assumption | refine Below.drew ?_ | refine below_drewN ?_ | refine Below.alloc ?_ (by first | omega | (simp; done) | (simp; omega)) _ | refine below_setRow ?_ (by omega) _ | refine Below.setCell ?_ (by first | omega | (simp; done) | (simp; omega)) _))).trans (b3.mono (by simp))).mono B2.size)
  go_wp2_with fail
  refine (some_any _).mono ?_
  rintro e w4 ⟨v4, rfl, F4, b4⟩
  have B4 := B3.trans (b4.mono B3.size)
  go_wp2_with fail
  refine (HE.out _ _ F4).mono ?_
  rintro e w5 ⟨v5, rfl, hb5, b5⟩
  have B5 := B4.trans (b5.mono B4.size)
  obtain ⟨A5, c5, rfl, -⟩ := id hb5
  rw [len_some]
  have R5 : RowIs (w5.alloc (.cells (buC xBu) 88)) w5.heap.size (buC xBu) := RowIs.new _ _ _
  have q5 : Below w5.heap.size w5 (w5.alloc (.cells (buC xBu) 88)) := (by repeat (first | with_reducible exact Below.refl _ _ | with_reducible assumption | refine Below.drew ?_ | refine below_drewN ?_ | refine Below.alloc ?_ (by first | omega | (simp; done) | (simp; omega)) _ | refine below_setRow ?_ (by omega) _ | refine Below.setCell ?_ (by first | omega | (simp; done) | (simp; omega)) _))
  have L5 := buload R5 xBu_wf
  clear b1 b2 b3 b4 b5 B2 B3 B4 F4 hb5
  go_wp2_with fail
  refine (buenc_any xBu _ xBu_wf).mono ?_
  rintro e w6 ⟨v6, rfl, hb6, b6⟩
  have R6 := R5.step b6
  go_wp2_with fail
  refine (HD.out _ _ hb6).mono ?_
  rintro e w7 ⟨rfl, b7⟩
  have R7 := R6.step b7
  have q7 : Below w7.heap.size w7 (w7.alloc (.cells (buC xBu) 88)) := (by repeat (first | with_reducible exact Below.refl _ _ | with_reducible assumption | refine Below.drew ?_ | refine below_drewN ?_ | refine Below.alloc ?_ (by first | omega | (simp; done) | (simp; omega)) _ | refine below_setRow ?_ (by omega) _ | refine Below.setCell ?_ (by first | omega | (simp; done) | (simp; omega)) _))
  have R8 := R7.step q7
  have S8 : RowIs (w7.alloc (.cells (buC xBu) 88)) w7.heap.size (buC xBu) := RowIs.new _ _ _
  have L8 := buload R8 xBu_wf
  have M8 := buload S8 xBu_wf
  have B8 := B5.trans ((q5.trans ((b6.trans ((b7.trans (q7.mono b7.size)).mono b6.size)).mono q5.size)).mono B5.size)
  clear L5 R5 R6 R7
  go_wp2_with fail
  go_ret
  exact ⟨by simp, B8⟩
end
end
section
open Go.ChangeShapes Go.WideShapes Go.ChangeAt Go.RowKit
theorem take_drop {α : Type} (l : List α) (o s : Nat) : l.drop o = (l.drop o).take s ++ l.drop (o + s) := by rw [← List.drop_drop, List.take_append_drop]
theorem lst7 {α : Type} {l : List α} (h : l.length = 7) : ∃ a b c d e f g, l = [a, b, c, d, e, f, g] := by
  match l, h with
  | [a, b, c, d, e, f, g], _ => exact ⟨a, b, c, d, e, f, g, rfl⟩
theorem lst4 {α : Type} {l : List α} (h : l.length = 4) : ∃ a b c d, l = [a, b, c, d] := by
  match l, h with
  | [a, b, c, d], _ => exact ⟨a, b, c, d, rfl⟩
section
variable {H : Type} {enc : TypeId × Value → H} {w : World} {base : Nat} {spare : Nat → Bool} {held : Bool} {r : Reach} {b0 fuel : Nat} {t e : TypeId} {v : Value} {d : DataW H} {ps : List MemPlace} {x : DataW H × List MemPlace} {n : Nat}
set_option maxRecDepth 100000 in
theorem trod_frame {cs : List Value} (hl : cs.length = 100) (h : DataW.trod enc Try.prog w base spare held fuel 80 cs = some x) :
    ∃ (f : FrP) (A : Option Addr) (c : Nat) (A2 : Option Addr) (c2 : Nat), cs = frL f (.slice A f.box.length c) (.slice A2 f.sign.length c2) ∧ f.WF ∧ f.box.length ≤ c ∧ Rd8 w w.heap.size A f.box ∧ KsL w (.slice A2 f.sign.length c2) f.sign := by
  obtain ⟨xs, n, _, _, _, hlen, hf⟩ := DataW.trod_struct Try.underlying80 h
  have xk : xs.length = 7 := hlen
  obtain ⟨y0, y1, y2, y3, y4, y5, y6, rfl⟩ := lst7 xk
  have f0 := hf 0 _ rfl
  change DataW.trod enc Try.prog w base spare held n 78 ((cs.drop 0).take (Try.prog.cellsOf 78)) = some y0 at f0
  rw [show Try.prog.cellsOf 78 = 1 by kernel_rfl] at f0
  have f1 := hf 1 _ rfl
  change DataW.trod enc Try.prog w base spare held n 78 ((cs.drop 1).take (Try.prog.cellsOf 78)) = some y1 at f1
  rw [show Try.prog.cellsOf 78 = 1 by kernel_rfl] at f1
  have f2 := hf 2 _ rfl
  change DataW.trod enc Try.prog w base spare held n 72 ((cs.drop 2).take (Try.prog.cellsOf 72)) = some y2 at f2
  rw [show Try.prog.cellsOf 72 = 32 by kernel_rfl] at f2
  have f3 := hf 3 _ rfl
  change DataW.trod enc Try.prog w base spare held n 72 ((cs.drop 34).take (Try.prog.cellsOf 72)) = some y3 at f3
  rw [show Try.prog.cellsOf 72 = 32 by kernel_rfl] at f3
  have f4 := hf 4 _ rfl
  change DataW.trod enc Try.prog w base spare held n 72 ((cs.drop 66).take (Try.prog.cellsOf 72)) = some y4 at f4
  rw [show Try.prog.cellsOf 72 = 32 by kernel_rfl] at f4
  have f5 := hf 5 _ rfl
  change DataW.trod enc Try.prog w base spare held n 25 ((cs.drop 98).take (Try.prog.cellsOf 25)) = some y5 at f5
  rw [show Try.prog.cellsOf 25 = 1 by kernel_rfl] at f5
  have f6 := hf 6 _ rfl
  change DataW.trod enc Try.prog w base spare held n 41 ((cs.drop 99).take (Try.prog.cellsOf 41)) = some y6 at f6
  rw [show Try.prog.cellsOf 41 = 1 by kernel_rfl] at f6
  obtain ⟨z0, h0, _, w0⟩ := DataW.trod_int Try.underlying78 f0
  obtain ⟨z1, h1, _, w1⟩ := DataW.trod_int Try.underlying78 f1
  obtain ⟨u0, rfl⟩ := wf32 w0
  obtain ⟨u1, rfl⟩ := wf32 w1
  obtain ⟨K2, h2, l2⟩ := trod_arr8 Try.underlying72 Try.underlying5 (by kernel_rfl) (by rw [List.length_take, List.length_drop]; omega) f2
  obtain ⟨K3, h3, l3⟩ := trod_arr8 Try.underlying72 Try.underlying5 (by kernel_rfl) (by rw [List.length_take, List.length_drop]; omega) f3
  obtain ⟨K4, h4, l4⟩ := trod_arr8 Try.underlying72 Try.underlying5 (by kernel_rfl) (by rw [List.length_take, List.length_drop]; omega) f4
  obtain ⟨A5, n5, c5, h5⟩ := cellsOf_slice1 Try.underlying25 f5
  obtain ⟨A6, n6, c6, h6⟩ := cellsOf_slice1 Try.underlying41 f6
  rw [h5] at f5
  rw [h6] at f6
  obtain ⟨l5, rfl, m5, r5⟩ := trod_bytes Try.underlying25 Try.underlying5 (by kernel_rfl) f5
  obtain ⟨ks, rfl, r6, hk6⟩ := trod_keys f6
  have e0 : cs.drop 0 = (cs.drop 0).take 1 ++ cs.drop 1 := take_drop cs 0 1
  have e1 : cs.drop 1 = (cs.drop 1).take 1 ++ cs.drop 2 := take_drop cs 1 1
  have e2 : cs.drop 2 = (cs.drop 2).take 32 ++ cs.drop 34 := take_drop cs 2 32
  have e3 : cs.drop 34 = (cs.drop 34).take 32 ++ cs.drop 66 := take_drop cs 34 32
  have e4 : cs.drop 66 = (cs.drop 66).take 32 ++ cs.drop 98 := take_drop cs 66 32
  have e5 : cs.drop 98 = (cs.drop 98).take 1 ++ cs.drop 99 := take_drop cs 98 1
  have e6 : cs.drop 99 = (cs.drop 99).take 1 ++ cs.drop 100 := take_drop cs 99 1
  have eN : cs.drop 100 = [] := List.drop_of_length_le (by omega)
  refine ⟨⟨u0.toNat, u1.toNat, K2, K3, K4, l5, ks⟩, A5, c5, A6, c6, ?_, ⟨u0.toNat_lt, u1.toNat_lt, l2, l3, l4, hk6⟩, m5, r5, r6⟩
  have e00 : cs = cs.drop 0 := List.drop_zero.symm
  rw [e00, e0, h0, e1, h1, e2, h2, e3, h3, e4, h4, e5, h5, e6, h6, eN, n32_def, n32_def]
  simp [frL]
set_option maxRecDepth 100000 in
theorem arg_frame (hval : Value.okWide Try.prog w r b0 80 v) (hd : DataW.Trod enc Try.prog w base spare held 80 v d ps) : ∃ f, RawFr w f v := by
  obtain ⟨cs, rfl, hcs⟩ := okWide_struct Try.underlying80 hval
  rw [show Try.prog.cellsOf 80 = 100 by kernel_rfl] at hcs
  obtain ⟨fuel, hf⟩ := hd
  simp only [Value.cells] at hf
  obtain ⟨f, A, c, A2, c2, e, h1, h2, h3, h4⟩ := trod_frame (by rw [Array.length_toList]; exact hcs) hf
  refine ⟨f, A, c, A2, c2, ?_, h1, h2, h3, h4⟩
  rw [frC_def, ← e]
set_option maxRecDepth 100000 in
theorem trod_bundle {cs : List Value} (hl : cs.length = 128) (h : DataW.trod enc Try.prog w base spare held fuel 88 cs = some x) : ∃ y : BuP, cs = flatK [y.chain, y.epo, y.sign, y.noise] ∧ y.WF := by
  obtain ⟨xs, n, _, _, _, hlen, hf⟩ := DataW.trod_struct Try.underlying88 h
  have xk : xs.length = 4 := hlen
  obtain ⟨y0, y1, y2, y3, rfl⟩ := lst4 xk
  have f0 := hf 0 _ rfl
  change DataW.trod enc Try.prog w base spare held n 72 ((cs.drop 0).take (Try.prog.cellsOf 72)) = some y0 at f0
  rw [show Try.prog.cellsOf 72 = 32 by kernel_rfl] at f0
  have f1 := hf 1 _ rfl
  change DataW.trod enc Try.prog w base spare held n 72 ((cs.drop 32).take (Try.prog.cellsOf 72)) = some y1 at f1
  rw [show Try.prog.cellsOf 72 = 32 by kernel_rfl] at f1
  have f2 := hf 2 _ rfl
  change DataW.trod enc Try.prog w base spare held n 72 ((cs.drop 64).take (Try.prog.cellsOf 72)) = some y2 at f2
  rw [show Try.prog.cellsOf 72 = 32 by kernel_rfl] at f2
  have f3 := hf 3 _ rfl
  change DataW.trod enc Try.prog w base spare held n 72 ((cs.drop 96).take (Try.prog.cellsOf 72)) = some y3 at f3
  rw [show Try.prog.cellsOf 72 = 32 by kernel_rfl] at f3
  obtain ⟨K0, h0, l0⟩ := trod_arr8 Try.underlying72 Try.underlying5 (by kernel_rfl) (by rw [List.length_take, List.length_drop]; omega) f0
  obtain ⟨K1, h1, l1⟩ := trod_arr8 Try.underlying72 Try.underlying5 (by kernel_rfl) (by rw [List.length_take, List.length_drop]; omega) f1
  obtain ⟨K2, h2, l2⟩ := trod_arr8 Try.underlying72 Try.underlying5 (by kernel_rfl) (by rw [List.length_take, List.length_drop]; omega) f2
  obtain ⟨K3, h3, l3⟩ := trod_arr8 Try.underlying72 Try.underlying5 (by kernel_rfl) (by rw [List.length_take, List.length_drop]; omega) f3
  have e0 : cs.drop 0 = (cs.drop 0).take 32 ++ cs.drop 32 := take_drop cs 0 32
  have e1 : cs.drop 32 = (cs.drop 32).take 32 ++ cs.drop 64 := take_drop cs 32 32
  have e2 : cs.drop 64 = (cs.drop 64).take 32 ++ cs.drop 96 := take_drop cs 64 32
  have e3 : cs.drop 96 = (cs.drop 96).take 32 ++ cs.drop 128 := take_drop cs 96 32
  have eN : cs.drop 128 = [] := List.drop_of_length_le (by omega)
  refine ⟨⟨K0, K1, K2, K3⟩, ?_, ⟨l0, l1, l2, l3⟩⟩
  have e00 : cs = cs.drop 0 := List.drop_zero.symm
  rw [e00, e0, h0, e1, h1, e2, h2, e3, h3, eN]
  simp [flatK]
set_option maxRecDepth 100000 in
theorem arg_bundle (hval : Value.okWide Try.prog w r b0 88 v) (hd : DataW.Trod enc Try.prog w base spare held 88 v d ps) : ∃ x : BuP, v = .agg (buC x) ∧ x.WF := by
  obtain ⟨cs, rfl, hcs⟩ := okWide_struct Try.underlying88 hval
  rw [show Try.prog.cellsOf 88 = 128 by kernel_rfl] at hcs
  obtain ⟨fuel, hf⟩ := hd
  simp only [Value.cells] at hf
  obtain ⟨y, e, h1⟩ := trod_bundle (by rw [Array.length_toList]; exact hcs) hf
  refine ⟨y, ?_, h1⟩
  rw [buC_def, ← e]
end
end
section
section
open Go.RowKit
theorem frStNew (w : World) (f : FrP) (hw : f.WF) (A : Option Addr) (n c : Nat) (A2 : Option Addr) (n2 c2 : Nat) : (storeAgg 80 (.pointer (some ⟨w.heap.size, 0, none⟩)) (.agg (frC f (.slice A n c) (.slice A2 n2 c2)))).run Try.prog (w.alloc (.cells (frC FrP.zero (.slice none 0 0) (.slice none 0 0)) 80)) =
    .ok .skip ((w.alloc (.cells (frC FrP.zero (.slice none 0 0) (.slice none 0 0)) 80)).setRow w.heap.size (frC f (.slice A n c) (.slice A2 n2 c2))) :=
  frStore _ _ f _ _ rfl rfl hw (by rw [(RowIs.new w _ _).has]; exact frC_size fr_zero_wf _ _)
theorem buStNew (w : World) (x : BuP) (hw : x.WF) : (storeAgg 88 (.pointer (some ⟨w.heap.size, 0, none⟩)) (.agg (buC x))).run Try.prog (w.alloc (.cells (buC BuP.zero) 88)) = .ok .skip ((w.alloc (.cells (buC BuP.zero) 88)).setRow w.heap.size (buC x)) :=
  buStore _ _ x hw (by rw [(RowIs.new w _ _).has]; exact buC_size zero_wf)
theorem FrV.form {w : World} {f : FrP} {v : Value} (h : FrV w f v) : ∃ A c A2 c2, v = .agg (frC f (.slice A f.box.length c) (.slice A2 f.sign.length c2)) ∧ f.WF := by
  obtain ⟨vb, vs, rfl, hw, hb, hs⟩ := h
  obtain ⟨A, c, rfl, -⟩ := hb
  obtain ⟨A2, c2, rfl, -⟩ := hs
  exact ⟨A, c, A2, c2, rfl, hw⟩
theorem rdBu_wf (b : List UInt8) : (rdBu b).WF := ⟨keyAt_32 (ikeysP_32 _ _) 0, keyAt_32 (ikeysP_32 _ _) 1, keyAt_32 (ikeysP_32 _ _) 2, keyAt_32 (ikeysP_32 _ _) 3⟩
theorem decB_wf (b : List UInt8) : (decBP b).1.WF := by
  unfold decBP
  split
  · exact zero_wf
  · split
    · exact zero_wf
    · exact rdBu_wf b
theorem decF_sign (b : List UInt8) : (decFP b).1.sign.length ≤ 1000000 := by
  have h0 : FrP.zero.sign.length ≤ 1000000 := by simp [FrP.zero]
  have h1 : (rdF b).sign.length ≤ 1000000 := Nat.le_trans (ikeysP_len _ _) (by omega)
  unfold decFP
  split
  · exact h0
  · split
    · exact h0
    · split
      · exact h0
      · split
        · exact h0
        · exact h1
theorem same_self {w : World} {a b : Value} {l : List UInt8} (ha : Bs w a l) (hb : Bs w b l) : Calls Try.prog 20 #[a, b] w (BoolRes w true) := by
  have := refSame_bs ha hb
  rwa [decide_eq_true rfl] at this
theorem int_self (a : Int) : (a == a) = true := by simp
theorem bool_self (a : Bool) : (a == a) = true := by simp
theorem box_le {f : FrP} (h : shortF f = true) : f.sign.length ≤ 110 := by
  unfold shortF at h
  rw [Bool.and_eq_true, decide_eq_true_eq, decide_eq_true_eq] at h
  exact h.2
end
end
end Go.Proofs.Ytifnpphkplogaaa
